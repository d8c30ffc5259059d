/- The walk of the reference's Some: of good arguments. -/
import Derived.Test.YtkceeifhnohioaaAllotR
namespace Go.Proofs.Ytkceeifhnohioaa.PO
open Go.RowKit Go.Proofs.Ytkceeifhnohioaa.Cents Go.Proofs.Ytkceeifhnohioaa.CO Go.Proofs.Ytkceeifhnohioaa.Exact
set_option linter.unusedVariables false
set_option linter.unusedSimpArgs false

theorem RW.up {w0 w : World} {Q k k' : Nat} {out : List Int} {v : Value} {x : XV} {s : Int} (h : RW w0 Q out v x s k w) (hk : k ≤ k') : RW w0 Q out v x s k' w := ⟨h.all, h.bx, h.ex.more hk, h.hQ⟩
theorem oth_all {al wh : List Int} {n m : Nat} (hn : al.length = n) (hm : wh.length = m) : othS al wh n m = al.sum - (pick al wh).sum := by
  unfold othS
  rw [List.take_of_length_le (by omega), List.take_of_length_le (by omega)]
set_option maxHeartbeats 4000000 in
set_option maxRecDepth 100000 in
theorem rsome_good (p : Int) (A W : Option Addr) (al wh : List Int) (c d : Nat) (w : World) (h : someG p al wh) (hp : I64 p) (hxa : ∀ x ∈ al, I64 x) (hra : Row w 0 A (ints al)) (hrw : Row w 0 W (ints wh)) (hl : al.length ≤ 70) (hmm : wh.length ≤ 70) :
    Calls Try.prog 11 #[.int .i64 p, .slice A al.length c, .slice W wh.length d] w (RetL w (someV p al wh) (someE p al wh)) := by
  have hp0 : ¬ p < 0 := by have := h.1; omega
  have hri := h.2.2
  have HRT := Lib.hid (rises_iff.1 hri).2
  have HXA := Lib.hid hxa
  have HP := Lib.hid hp
  have HWR := Lib.hid hri.2.1
  have HG := Lib.hid h
  have HAP := Lib.hid (fun i (hi : i < al.length) => show 0 ≤ al.getD i 0 by rw [List.getD_eq_getElem?_getD, List.getElem?_eq_getElem hi]; exact h.2.1 _ (List.getElem_mem _))
  have HRA := Lib.hid hra
  have HRW := Lib.hid hrw
  have hm1 : 1 ≤ wh.length := List.length_pos_iff.2 hri.1
  have hpos : 1 ≤ al.length := by
    obtain ⟨x, hx⟩ := List.exists_mem_of_ne_nil _ hri.1
    have := hri.2.1 x hx
    omega
  obtain ⟨n, hn⟩ : ∃ n, al.length = n := ⟨_, rfl⟩
  obtain ⟨m, hm⟩ : ∃ m, wh.length = m := ⟨_, rfl⟩
  have HN := Lib.hid hn
  have HM := Lib.hid hm
  rw [hn] at hl hpos HRT HAP ⊢
  rw [hm] at hmm hm1 HRT ⊢
  have z1 : ((m : Int) == 0) = false := by simp; omega
  have z2 : ¬ (m : Int) = 0 := by omega
  clear h hri hra hrw hxa hp hn hm
  go_enter Try.func11, Try.ntmps11
  go_wp2_with fail
  go_loop [8] (fun i => ∃ k : Nat, i = .int .i64 (k : Int) ∧ k ≤ n) (fun i => n - (intOf i).toNat)
  case atStart => exact ⟨0, rfl, by omega⟩
  case round =>
    obtain ⟨k, rfl, hk⟩ := hrel
    have g0 : (0 : Int) ≤ (k : Int) := Int.natCast_nonneg _
    by_cases hlt : k < n
    · obtain ⟨ad, rfl, c0⟩ := int_cell HRA.out (j := k) (by rw [HN.out]; exact hlt)
      have g1 : (k : Int) < (n : Int) := by omega
      have hy := HAP.out k hlt
      generalize al.getD k 0 = y at *
      have hy2 : ¬ y < 0 := by omega
      go_wp2_with fail
      go_round
      case rel => exact ⟨k + 1, by go_num, by omega⟩
      case measure => simp [intOf]; omega
    · obtain rfl : k = n := by omega
      go_wp2_with fail
      go_loopw [9] (fun i wr => ∃ j : Nat, i = .int .i64 (j : Int) ∧ j ≤ m ∧ Below w.heap.size w wr) (fun i _ => m - (intOf i).toNat)
      case atStart => exact ⟨0, rfl, by omega, Below.refl _ _⟩
      case round =>
        obtain ⟨j, rfl, hj, hb⟩ := hrel
        have HB := Lib.hid hb
        clear hb
        have g2 : (0 : Int) ≤ (j : Int) := Int.natCast_nonneg _
        by_cases hjm : j < m
        · obtain ⟨wd, rfl, c0⟩ := int_cell (HRW.out.below HB.out) (j := j) (by rw [HM.out]; exact hjm)
          have g3 : (j : Int) < (m : Int) := by omega
          have hrt := HRT.out j hjm
          by_cases hj0 : j = 0
          · generalize wh.getD j 0 = x at *
            have d1 : decide (x < 0) = false := by simp; omega
            have d2 : decide ((k : Int) ≤ x) = false := by simp; omega
            have d3 : decide (0 < j) = false := by simp; omega
            have f1 : ¬ (0 : Int) < (j : Int) := by omega
            have q1 : ¬ x < 0 := by omega
            have q2 : ¬ (k : Int) ≤ x := by omega
            clear hrt hj0
            go_wp2_with fail
            go_quiet (fail)
            go_wp2_with fail
            go_roundw
            case rel => exact ⟨j + 1, by go_num, by omega, HB.out.trans ((Quiet.below ⟨nq, rfl⟩).mono HB.out.size)⟩
            case measure => simp [intOf]; omega
          · obtain ⟨i, hi⟩ : ∃ i : Nat, j = i + 1 := ⟨j - 1, by omega⟩
            obtain ⟨wd', hwd', c1⟩ := int_cell (HRW.out.below HB.out) (j := i) (by rw [HM.out]; omega)
            cases hwd'
            rw [show j - 1 = i by omega] at hrt
            have hrt3 := hrt.2.2 (by omega)
            generalize wh.getD j 0 = x at *
            generalize wh.getD i 0 = x0 at *
            have f1 : (0 : Int) < (j : Int) := by omega
            have f2 : (j : Int) - 1 = (i : Int) := by omega
            have f3 : IntKind.i64.wrap ((j : Int) - 1) = (j : Int) - 1 := IntWalk.i64_in _ (by omega)
            have f4 : (0 : Int) ≤ (i : Int) := Int.natCast_nonneg _
            have f5 : (i : Int) < (m : Int) := by omega
            have f6 : ((j : Int) - 1).toNat = i := by omega
            have f7 : 1 ≤ j := by omega
            have f8 : (1 : Int) ≤ (j : Int) := by omega
            have d1 : decide (x < 0) = false := by simp; omega
            have d2 : decide ((k : Int) ≤ x) = false := by simp; omega
            have d3 : decide (0 < j) = true := by simp; omega
            have d4 : decide (x ≤ x0) = false := by simp; omega
            have q1 : ¬ x < 0 := by omega
            have q2 : ¬ (k : Int) ≤ x := by omega
            have q3 : ¬ x ≤ x0 := by omega
            clear hi hj0 hrt hrt3
            go_wp2_with fail
            go_quiet (fail)
            go_wp2_with fail
            go_roundw
            case rel => exact ⟨j + 1, by go_num, by omega, HB.out.trans ((Quiet.below ⟨nq, rfl⟩).mono HB.out.size)⟩
            case measure => simp [intOf]; omega
        · obtain rfl : j = m := by omega
          obtain ⟨ws, hws⟩ : ∃ ws : World, ws = wr := ⟨_, rfl⟩
          rw [← hws] at HB ⊢
          clear hws
          have hsz : w.heap.size ≤ ws.heap.size := HB.out.size
          have HAL := Lib.hid (AllW.mk (w0 := w) (out := []) (v := .slice (some ⟨ws.heap.size + 1, 0, none⟩) 0 0) (w := ((ws.alloc (.cells #[.int .i64 0, .slice none 0 0] 47)).alloc (.cells #[] 2)))
            (by have := Exact.own_empty (ws.alloc (.cells #[.int .i64 0, .slice none 0 0] 47)) 2 1 w.heap.size (by simp; omega); simp at this; exact this)
            ((HB.out.alloc hsz _).alloc (by simp; omega) _))
          have HBX := Lib.hid ((Blk.new ws 47 #[.int .i64 0, .slice none 0 0]).alloc (.cells #[] 2))
          go_wp2_with fail
          obtain ⟨Q, hQ⟩ : ∃ Q, ws.heap.size = Q := ⟨_, rfl⟩
          have HQ := Lib.hid (show w.heap.size ≤ Q by rw [← hQ]; exact hsz)
          obtain ⟨wb, hwb⟩ : ∃ wb, ((ws.alloc (.cells #[.int .i64 0, .slice none 0 0] 47)).alloc (.cells #[] 2)) = wb := ⟨_, rfl⟩
          rw [hwb] at HAL HBX
          rw [hQ] at HAL HBX
          try rw [hwb]
          try rw [hQ]
          have HRW2 := Lib.hid (show RW w Q (pick al (wh.take 0)) (.slice (some ⟨Q + 1, 0, none⟩) 0 0) ⟨0, none, 0, 0⟩ (othS al wh 0 0) (7 + 0) wb from ⟨by simpa [pick] using HAL.out, HBX.out, by rw [oth_zero]; exact ⟨[], none, 0, rfl, Nat.le_refl _, Nat.zero_le _, RowF.none_, EM.Tells.zero⟩, HQ.out⟩)
          clear HAL HBX hsz hQ hwb
          go_loopw [11, 12, 13] (fun v kk ii wr => ∃ (i q : Nat) (B : Option Addr) (cb : Nat) (X : XV), v = .slice B q cb ∧ kk = .int .i64 (q : Int) ∧ ii = .int .i64 (i : Int) ∧ i ≤ k ∧ PosW wh i q ∧ RW w Q (pick al (wh.take q)) (.slice B q cb) X (othS al wh i q) (7 + i) wr) (fun _ _ ii _ => k - (intOf ii).toNat)
          case atStart => exact ⟨0, 0, _, 0, _, rfl, rfl, rfl, by omega, PosW.zero (most := k) (by rw [HM.out]; exact HRT.out), HRW2.out⟩
          case round =>
            clear HRW2 HB
            obtain ⟨i, q, B, cb, X, rfl, rfl, rfl, hi, hpo, hrw⟩ := hrel
            have HRW2 := Lib.hid hrw
            have HPO := Lib.hid hpo
            have hqm : q ≤ j := by have := hpo.le; rw [HM.out] at this; exact this
            clear hrw hpo
            have g2 : (0 : Int) ≤ (i : Int) := Int.natCast_nonneg _
            have g4 : (0 : Int) ≤ (q : Int) := Int.natCast_nonneg _
            have hrt : RiseTo wh k wh.length := by rw [HM.out]; exact HRT.out
            have HRT2 := Lib.hid hrt
            clear hrt
            by_cases hik : i < k
            · obtain ⟨ad, rfl, c0⟩ := int_cell (HRA.out.below HRW2.out.all.be) (j := i) (by rw [HN.out]; exact hik)
              have g3 : (i : Int) < (k : Int) := by omega
              have hyi := getD_I HXA.out (i := i) (by rw [HN.out]; exact hik)
              have HOM := Lib.hid (oth_miss (al := al) (wh := wh) (i := i) (k := q) (by rw [HN.out]; exact hik))
              have hb0 : wr.cell? ⟨Q, 0, none⟩ = some (.int .i64 X.s) := HRW2.out.bx.cell 0
              have hb1 : wr.cell? ⟨Q, 1, none⟩ = some (.slice X.E X.l X.c) := HRW2.out.bx.cell 1
              by_cases hqj : q < j
              · obtain ⟨wd, rfl, c1⟩ := int_cell (HRW.out.below HRW2.out.all.be) (j := q) (by rw [HM.out]; exact hqj)
                have g5 : (q : Int) < (j : Int) := by omega
                have hqw : q < wh.length := by rw [HM.out]; exact hqj
                by_cases he : wh.getD q 0 = (i : Int)
                · have HPH := Lib.hid (HPO.out.hit HRT2.out hqw he)
                  have HPK := Lib.hid (pick_snoc al wh hqw)
                  have HOH := Lib.hid (oth_hit (al := al) (wh := wh) (by rw [HN.out]; exact hik) hqw he)
                  rw [he, Int.toNat_natCast] at HPK
                  rw [he] at c1
                  have HPL := Lib.hid (show (pick al (wh.take q)).length = q by rw [pick_len, List.length_take]; omega)
                  have hsz : w.heap.size ≤ wr.heap.size := HRW2.out.all.be.size
                  have OW := Lib.hid (show wr.ownsRow w.heap.size 2 1 (.slice B q cb) q (ints (pick al (wh.take q))) by have := HRW2.out.all.own; rw [HPL.out] at this; exact this)
                  generalize al.getD i 0 = y at *
                  have hb1' : (q + 1) * 8 ≤ 140737488355328 := by omega
                  have hb2' : q + 1 ≤ maxLen := by unfold maxLen; omega
                  clear hyi HOM he hqw HPO
                  go_wp2_with (at_builtin; refine wpList_app E_i64 rfl (.tmp 96) (.tmp 101) rfl rfl (OW.out.alloc _) ⟨wr.heap.size, 0, none⟩ 1 1 [.int .i64 y] rfl rfl (cell_one_new _ _ _) (one_cell _ _) hb1' hb2' (by simp; omega) (by decide) ?_; intro g cap w6 hown6 hg6 hat6; have HA6 := Lib.hid (HRW2.out.app HPL.out hown6 hg6 hat6); clear hown6 hg6 hat6)
                  rw [← HPK.out] at HA6
                  go_roundw
                  case rel => exact ⟨i + 1, q + 1, _, _, X, rfl, by go_num, by go_num, by omega, HPH.out, by rw [HOH.out]; exact HA6.out.up (by omega)⟩
                  case measure => simp [intOf]; omega
                · have HPM := Lib.hid (HPO.out.miss HRT2.out (fun _ => he))
                  generalize al.getD i 0 = y at *
                  generalize wh.getD q 0 = x at *
                  have HYI := Lib.hid hyi
                  have he2 : (x == (i : Int)) = false := by simpa using he
                  have he3 : decide (x = (i : Int)) = false := by simpa using he
                  generalize othS al wh i q = s at *
                  clear hyi HPO hqw
                  go_wp2_with fail
                  go_region_with
                    (first
                      | (go_at_call 27; refine (of_any (fun x => x ≠ Q ∧ (Value.slice B q cb).ownBlock ≠ some x) y _ ?_ HYI.out).mono ?_; exact (HRW2.out.later (Later.refl wr).drew).new; rintro e w7 ⟨v7, rfl, x7, b7⟩; have HA7 := Lib.hid ((HRW2.out.later (Later.refl wr).drew).later b7); have X7 := Lib.hid x7; clear x7 b7; have e0 : w7.cell? ⟨Q, 0, none⟩ = some (.int .i64 X.s) := HA7.out.bx.cell 0; have e1 : w7.cell? ⟨Q, 1, none⟩ = some (.slice X.E X.l X.c) := HA7.out.bx.cell 1)
                      | (go_at_call 26; refine (plus_any (fun x => x ≠ Q ∧ (Value.slice B q cb).ownBlock ≠ some x) _ _ s y (7 + i) _ ?_ ?_ ?_ (by omega)).mono ?_; exact HA7.out.new; exact HA7.out.ex; exact X7.out.more (by omega); rintro e w8 ⟨v8, rfl, x8, b8⟩; obtain ⟨⟨s8, E8, l8, c8⟩, rfl⟩ := x8.xv; have HA8 := Lib.hid (HA7.out.later b8); have X8 := Lib.hid x8; clear x8 b8; have e2 : w8.cell? ⟨Q, 0, none⟩ = some (.int .i64 X.s) := HA8.out.bx.cell 0; have e3 : w8.cell? ⟨Q, 1, none⟩ = some (.slice X.E X.l X.c) := HA8.out.bx.cell 1; have d3 := HA8.out.bx.frozen 0; have d4 := HA8.out.bx.frozen 1; try dsimp only [XV.val]))
                  all_goals
                    go_wp2_with fail
                    go_roundw
                    case rel => exact ⟨i + 1, q, _, _, ⟨s8, E8, l8, c8⟩, rfl, rfl, by go_num, by omega, HPM.out, by rw [HOM.out]; exact HA8.out.set ⟨s8, E8, l8, c8⟩ X8.out⟩
                    case measure => simp [intOf]; omega
              · obtain rfl : q = j := by omega
                have HPM := Lib.hid (HPO.out.miss HRT2.out (fun h => by rw [HM.out] at h; omega))
                generalize al.getD i 0 = y at *
                have HYI := Lib.hid hyi
                generalize othS al wh i q = s at *
                clear hyi HPO
                go_wp2_with fail
                go_region_with
                  (first
                    | (go_at_call 27; refine (of_any (fun x => x ≠ Q ∧ (Value.slice B q cb).ownBlock ≠ some x) y _ ?_ HYI.out).mono ?_; exact (HRW2.out.later (Later.refl wr).drew).new; rintro e w7 ⟨v7, rfl, x7, b7⟩; have HA7 := Lib.hid ((HRW2.out.later (Later.refl wr).drew).later b7); have X7 := Lib.hid x7; clear x7 b7; have e0 : w7.cell? ⟨Q, 0, none⟩ = some (.int .i64 X.s) := HA7.out.bx.cell 0; have e1 : w7.cell? ⟨Q, 1, none⟩ = some (.slice X.E X.l X.c) := HA7.out.bx.cell 1)
                    | (go_at_call 26; refine (plus_any (fun x => x ≠ Q ∧ (Value.slice B q cb).ownBlock ≠ some x) _ _ s y (7 + i) _ ?_ ?_ ?_ (by omega)).mono ?_; exact HA7.out.new; exact HA7.out.ex; exact X7.out.more (by omega); rintro e w8 ⟨v8, rfl, x8, b8⟩; obtain ⟨⟨s8, E8, l8, c8⟩, rfl⟩ := x8.xv; have HA8 := Lib.hid (HA7.out.later b8); have X8 := Lib.hid x8; clear x8 b8; have e2 : w8.cell? ⟨Q, 0, none⟩ = some (.int .i64 X.s) := HA8.out.bx.cell 0; have e3 : w8.cell? ⟨Q, 1, none⟩ = some (.slice X.E X.l X.c) := HA8.out.bx.cell 1; have d3 := HA8.out.bx.frozen 0; have d4 := HA8.out.bx.frozen 1; try dsimp only [XV.val]))
                all_goals
                  go_wp2_with fail
                  go_roundw
                  case rel => exact ⟨i + 1, q, _, _, ⟨s8, E8, l8, c8⟩, rfl, rfl, by go_num, by omega, HPM.out, by rw [HOM.out]; exact HA8.out.set ⟨s8, E8, l8, c8⟩ X8.out⟩
                  case measure => simp [intOf]; omega
            · obtain rfl : i = k := by omega
              obtain rfl : q = j := (HPO.out.all HRT2.out).trans HM.out
              clear HPO HRT2
              rw [oth_all HN.out HM.out] at HRW2
              rw [List.take_of_length_le (show wh.length ≤ q by rw [HM.out]; exact Nat.le_refl _)] at HRW2
              have HPL := Lib.hid (show (pick al wh).length = q by rw [pick_len]; exact HM.out)
              obtain ⟨go, co, hv, hcap⟩ := HRW2.out.all.form HPL.out hm1
              injection hv with e1 _ e3
              subst e1 e3
              have hb0 : wr.cell? ⟨Q, 0, none⟩ = some (.int .i64 X.s) := HRW2.out.bx.cell 0
              have hb1 : wr.cell? ⟨Q, 1, none⟩ = some (.slice X.E X.l X.c) := HRW2.out.bx.cell 1
              have HE := Lib.hid (HRW2.out.ex.any (Nat.le_refl _))
              obtain ⟨S, hS⟩ : ∃ S, al.sum - (pick al wh).sum = S := ⟨_, rfl⟩
              have HS := Lib.hid hS
              rw [hS] at HRW2 HE
              clear hS
              by_cases hs0 : I64 S
              · have HF0 := Lib.hid (fit_yes hs0)
                by_cases hs : I64 (p - S)
                · obtain ⟨l1, l2⟩ := left_yes hs0 hs
                  have HF1 := Lib.hid (fit_yes hs)
                  have HSI := Lib.hid hs
                  have HPI := Lib.hid (show ∀ x ∈ pick al wh, I64 x from fun x hx => HXA.out x (pick_mem HWR.out hx))
                  clear hs0 hs
                  by_cases h3 : p - S < 0
                  · obtain ⟨e1, e2⟩ := some_neg HG.out (by rw [HS.out]; exact l1) (by rw [HS.out, l2]; exact h3)
                    have E1 := Lib.hid e1
                    have E2 := Lib.hid e2
                    have h4 : ¬ 0 ≤ p - S := by omega
                    clear e1 e2 l1 l2
                    go_wp2_with fail
                    refine (fit_is _ S (7 + i) _ HE.out (by omega) (by omega) S 0 HF0.out).mono ?_
                    rintro e w5 ⟨rfl, b5⟩
                    have HA5 := Lib.hid (HRW2.out.later b5)
                    have k0 : w5.cell? ⟨Q, 0, none⟩ = some (.int .i64 X.s) := HA5.out.bx.cell 0
                    have k1 : w5.cell? ⟨Q, 1, none⟩ = some (.slice X.E X.l X.c) := HA5.out.bx.cell 1
                    clear b5 HE hb0 hb1
                    go_wp2_with fail
                    go_region_with
                      (first
                        | (go_at_call 27; refine (of_any (fun x => x ≠ Q ∧ (Value.slice (some ⟨go, 0, none⟩) q cb).ownBlock ≠ some x) p _ ?_ HP.out).mono ?_; exact (HA5.out.later (Later.refl w5).drew).new; rintro e w7 ⟨v7, rfl, x7, b7⟩; have HA7 := Lib.hid ((HA5.out.later (Later.refl w5).drew).later b7); have X7 := Lib.hid x7; clear x7 b7; have e0 : w7.cell? ⟨Q, 0, none⟩ = some (.int .i64 X.s) := HA7.out.bx.cell 0; have e1 : w7.cell? ⟨Q, 1, none⟩ = some (.slice X.E X.l X.c) := HA7.out.bx.cell 1)
                        | (go_at_call 29; refine (Exact.less_any (fun x => x ≠ Q ∧ (Value.slice (some ⟨go, 0, none⟩) q cb).ownBlock ≠ some x) _ _ p S (7 + i) _ ?_ ?_ ?_ (by omega)).mono ?_; exact HA7.out.new; exact X7.out.more (by omega); exact HA7.out.ex; rintro e w8 ⟨v8, rfl, x8, b8⟩; have HA8 := Lib.hid (HA7.out.later b8); have X8 := Lib.hid (x8.any (Nat.le_refl _)); clear x8 b8; have e2 : w8.cell? ⟨Q, 0, none⟩ = some (.int .i64 X.s) := HA8.out.bx.cell 0; have e3 : w8.cell? ⟨Q, 1, none⟩ = some (.slice X.E X.l X.c) := HA8.out.bx.cell 1)
                        | (go_at_call 28; refine (fit_is _ (p - S) (7 + i + 1) _ X8.out (by omega) (by omega) (p - S) 0 HF1.out).mono ?_; rintro e w9 ⟨rfl, b9⟩; have HA9 := Lib.hid (HA8.out.later b9); clear b9; have e4 : w9.cell? ⟨Q, 0, none⟩ = some (.int .i64 X.s) := HA9.out.bx.cell 0; have e5 : w9.cell? ⟨Q, 1, none⟩ = some (.slice X.E X.l X.c) := HA9.out.bx.cell 1))
                    all_goals
                      go_wp2_with fail
                      go_ret2
                      rw [E1.out, E2.out]
                      exact ⟨none, 0, rfl, Row.none_, by simp, HA9.out.all.be⟩
                  · by_cases hO : outE (p - S) (pick al wh) = 0
                    · obtain ⟨e1, e2⟩ := some_ok HG.out (by rw [HS.out]; exact l1) (by rw [HS.out, l2]; exact h3) (by rw [HS.out, l2]; exact hO)
                      rw [HS.out, l2] at e2
                      have E1 := Lib.hid e1
                      have E2 := Lib.hid e2
                      have hgd := outV_good hO
                      have HVL := Lib.hid (hgd.len.trans HPL.out)
                      have HO := Lib.hid (fun c w (hr : Row w 0 (some ⟨go, 0, none⟩) (ints (pick al wh))) => rout_any (p - S) (some ⟨go, 0, none⟩) (pick al wh) c w HSI.out HPI.out hr (by rw [HPL.out]; omega))
                      rw [HPL.out, hO] at HO
                      clear e1 e2 l1 l2 hO hgd
                      generalize outV (p - S) (pick al wh) = V at *
                      go_wp2_with fail
                      refine (fit_is _ S (7 + i) _ HE.out (by omega) (by omega) S 0 HF0.out).mono ?_
                      rintro e w5 ⟨rfl, b5⟩
                      have HA5 := Lib.hid (HRW2.out.later b5)
                      have k0 : w5.cell? ⟨Q, 0, none⟩ = some (.int .i64 X.s) := HA5.out.bx.cell 0
                      have k1 : w5.cell? ⟨Q, 1, none⟩ = some (.slice X.E X.l X.c) := HA5.out.bx.cell 1
                      clear b5 HE hb0 hb1
                      go_wp2_with fail
                      go_region_with
                        (first
                          | (go_at_call 27; refine (of_any (fun x => x ≠ Q ∧ (Value.slice (some ⟨go, 0, none⟩) q cb).ownBlock ≠ some x) p _ ?_ HP.out).mono ?_; exact (HA5.out.later (Later.refl w5).drew).new; rintro e w7 ⟨v7, rfl, x7, b7⟩; have HA7 := Lib.hid ((HA5.out.later (Later.refl w5).drew).later b7); have X7 := Lib.hid x7; clear x7 b7; have e0 : w7.cell? ⟨Q, 0, none⟩ = some (.int .i64 X.s) := HA7.out.bx.cell 0; have e1 : w7.cell? ⟨Q, 1, none⟩ = some (.slice X.E X.l X.c) := HA7.out.bx.cell 1)
                          | (go_at_call 29; refine (Exact.less_any (fun x => x ≠ Q ∧ (Value.slice (some ⟨go, 0, none⟩) q cb).ownBlock ≠ some x) _ _ p S (7 + i) _ ?_ ?_ ?_ (by omega)).mono ?_; exact HA7.out.new; exact X7.out.more (by omega); exact HA7.out.ex; rintro e w8 ⟨v8, rfl, x8, b8⟩; have HA8 := Lib.hid (HA7.out.later b8); have X8 := Lib.hid (x8.any (Nat.le_refl _)); clear x8 b8; have e2 : w8.cell? ⟨Q, 0, none⟩ = some (.int .i64 X.s) := HA8.out.bx.cell 0; have e3 : w8.cell? ⟨Q, 1, none⟩ = some (.slice X.E X.l X.c) := HA8.out.bx.cell 1)
                          | (go_at_call 28; refine (fit_is _ (p - S) (7 + i + 1) _ X8.out (by omega) (by omega) (p - S) 0 HF1.out).mono ?_; rintro e w9 ⟨rfl, b9⟩; have HA9 := Lib.hid (HA8.out.later b9); clear b9; have e4 : w9.cell? ⟨Q, 0, none⟩ = some (.int .i64 X.s) := HA9.out.bx.cell 0; have e5 : w9.cell? ⟨Q, 1, none⟩ = some (.slice X.E X.l X.c) := HA9.out.bx.cell 1))
                      all_goals
                        have ho9 := HA9.out.all.own
                        rw [HPL.out] at ho9
                        have HRP := Lib.hid ((Row.of_own ho9 (by decide)).weak (Nat.zero_le _))
                        clear ho9
                        go_wp2_with fail
                        refine (HO.out _ _ HRP.out).mono ?_
                        rintro e w10 ⟨B0, c0, rfl, hr0, hc0, hb0⟩
                        have HB10 := Lib.hid (HA9.out.all.be.trans (hb0.mono HA9.out.all.be.size))
                        have HRB := Lib.hid (hr0.weak (Nat.zero_le _))
                        rw [HVL.out]
                        clear hr0 hc0 hb0
                        have hposA : 0 < (ints al).length := by rw [ints_len, HN.out]; exact hpos
                        obtain ⟨ada, hada, _, hca⟩ := (HRA.out.below HB10.out) hposA
                        subst hada
                        have HC := Lib.hid (fun j u h => cell_below' (alloc1 w10 (.cells #[] 2)) (hca j u h))
                        have HLA := Lib.hid (show (ints al).length = i * 1 by rw [ints_len, Nat.mul_one]; exact HN.out)
                        have HOE := Lib.hid (own_empty w10 2 1 w10.heap.size (Nat.le_refl _))
                        have hb1 : (0 + i) * 8 ≤ 140737488355328 := by omega
                        have hb2 : 0 + i ≤ maxLen := by unfold maxLen; omega
                        clear hposA hca
                        go_wp2_with (at_builtin; refine wpList_app E_i64 rfl (.tmp 142) (.tmp 143) rfl rfl HOE.out ada i c (ints al) rfl HLA.out HC.out (by simp [ints, Value.oneCell']) hb1 hb2 (by simp) hpos ?_; intro g cap w11 hown hg hat; have HO11 := Lib.hid hown; have HB11 := Lib.hid ((alloc1 w10 (.cells #[] 2)).grown hg (by simp) (fun j hj => by have := (HOE.out.lt j hj).1; omega)); clear hown hg hat)
                        have hown := HO11.out
                        rw [Nat.zero_add, List.nil_append] at hown
                        have HAL := Lib.hid (show AllW w10 (lay al (wh.take 0) (V.take 0)) (.slice (some ⟨g, 0, none⟩) i cap) w11 from ⟨by simp only [List.take_zero, lay]; rw [HN.out]; exact hown, HB11.out⟩)
                        clear hown HO11 HB11
                        try rw [Nat.zero_add]
                        go_wp2_with fail
                        go_loopw [21] (fun ii wr => ∃ a : Nat, ii = .int .i64 (a : Int) ∧ a ≤ q ∧ AllW w10 (lay al (wh.take a) (V.take a)) (.slice (some ⟨g, 0, none⟩) i cap) wr) (fun ii _ => q - (intOf ii).toNat)
                        case atStart => exact ⟨0, rfl, by omega, HAL.out⟩
                        case round =>
                          clear HAL
                          obtain ⟨a, rfl, ha, hall⟩ := hrel
                          have HA := Lib.hid hall
                          clear hall
                          have g2 : (0 : Int) ≤ (a : Int) := Int.natCast_nonneg _
                          by_cases haq : a < q
                          · obtain ⟨wd, rfl, c0⟩ := int_cell ((HRW.out.below HB10.out).below HA.out.be) (j := a) (by rw [HM.out]; exact haq)
                            obtain ⟨vd, rfl, c1⟩ := int_cell (HRB.out.below HA.out.be) (j := a) (by rw [HVL.out]; exact haq)
                            have hwl : a < wh.length := by rw [HM.out]; exact haq
                            have hvl : a < V.length := by rw [HVL.out]; exact haq
                            have ew : wh.getD a 0 = wh[a] := by simp [List.getD_eq_getElem?_getD, hwl]
                            have ev : V.getD a 0 = V[a] := by simp [List.getD_eq_getElem?_getD, hvl]
                            have hst := lay_snoc (wh.take a) al (V.take a) wh[a] V[a] (by rw [List.length_take, List.length_take, HM.out, HVL.out])
                            rw [← List.take_succ_eq_append_getElem hwl, ← List.take_succ_eq_append_getElem hvl, ← ew, ← ev] at hst
                            have hw := HWR.out (wh.getD a 0) (by rw [ew]; exact List.getElem_mem _)
                            rw [HN.out] at hw
                            obtain ⟨b, hbb⟩ : ∃ b : Nat, wh.getD a 0 = (b : Int) := ⟨(wh.getD a 0).toNat, by omega⟩
                            rw [hbb] at c0 hst hw
                            rw [Int.toNat_natCast] at hst
                            have hbk : b < i := by omega
                            have HLN := Lib.hid (show (lay al (wh.take a) (V.take a)).length = i by rw [lay_len]; exact HN.out)
                            have f2 := HA.out.free HLN.out b
                            have f1 := HA.out.cell HLN.out hbk
                            have g1 : (a : Int) < (q : Int) := by omega
                            have g3 : (0 : Int) ≤ (b : Int) := Int.natCast_nonneg _
                            have g4 : (b : Int) < (i : Int) := by omega
                            have HST := Lib.hid hst
                            generalize V.getD a 0 = y at *
                            generalize (lay al (wh.take a) (V.take a)).getD b 0 = y0 at *
                            clear hst hw hbb ew ev hwl hvl
                            go_wp2_with fail
                            go_region_with (fail)
                            all_goals
                              have HA6 := Lib.hid ((HA.out.later (Later.refl wr).drew).set HLN.out b y)
                              rw [← HST.out] at HA6
                              go_wp2_with fail
                              go_roundw
                              case rel => exact ⟨a + 1, by go_num, by omega, HA6.out⟩
                              case measure => simp [intOf]; omega
                          · obtain rfl : a = q := by omega
                            have h1 : wh.take a = wh := List.take_of_length_le (by rw [HM.out]; omega)
                            have h2 : V.take a = V := List.take_of_length_le (by rw [HVL.out]; omega)
                            rw [h1, h2] at HA
                            clear h1 h2
                            go_wp2_with fail
                            go_ret2
                            rw [E1.out, E2.out]
                            exact RetA.toL ⟨_, rfl, all_inB HA.out HB10.out⟩
                    · obtain ⟨e1, e2⟩ := some_out HG.out (by rw [HS.out]; exact l1) (by rw [HS.out, l2]; exact h3) (by rw [HS.out, l2]; exact hO)
                      rw [HS.out, l2] at e1
                      have E1 := Lib.hid e1
                      have E2 := Lib.hid e2
                      have HO := Lib.hid (fun c w (hr : Row w 0 (some ⟨go, 0, none⟩) (ints (pick al wh))) => rout_no (p - S) (some ⟨go, 0, none⟩) (pick al wh) c w HSI.out HPI.out hr (by rw [HPL.out]; omega) hO)
                      rw [HPL.out] at HO
                      have HOE := Lib.hid hO
                      clear e1 e2 l1 l2 hO
                      generalize outE (p - S) (pick al wh) = E0 at *
                      have hne := HOE.out
                      go_wp2_with fail
                      refine (fit_is _ S (7 + i) _ HE.out (by omega) (by omega) S 0 HF0.out).mono ?_
                      rintro e w5 ⟨rfl, b5⟩
                      have HA5 := Lib.hid (HRW2.out.later b5)
                      have k0 : w5.cell? ⟨Q, 0, none⟩ = some (.int .i64 X.s) := HA5.out.bx.cell 0
                      have k1 : w5.cell? ⟨Q, 1, none⟩ = some (.slice X.E X.l X.c) := HA5.out.bx.cell 1
                      clear b5 HE hb0 hb1
                      go_wp2_with fail
                      go_region_with
                        (first
                          | (go_at_call 27; refine (of_any (fun x => x ≠ Q ∧ (Value.slice (some ⟨go, 0, none⟩) q cb).ownBlock ≠ some x) p _ ?_ HP.out).mono ?_; exact (HA5.out.later (Later.refl w5).drew).new; rintro e w7 ⟨v7, rfl, x7, b7⟩; have HA7 := Lib.hid ((HA5.out.later (Later.refl w5).drew).later b7); have X7 := Lib.hid x7; clear x7 b7; have e0 : w7.cell? ⟨Q, 0, none⟩ = some (.int .i64 X.s) := HA7.out.bx.cell 0; have e1 : w7.cell? ⟨Q, 1, none⟩ = some (.slice X.E X.l X.c) := HA7.out.bx.cell 1)
                          | (go_at_call 29; refine (Exact.less_any (fun x => x ≠ Q ∧ (Value.slice (some ⟨go, 0, none⟩) q cb).ownBlock ≠ some x) _ _ p S (7 + i) _ ?_ ?_ ?_ (by omega)).mono ?_; exact HA7.out.new; exact X7.out.more (by omega); exact HA7.out.ex; rintro e w8 ⟨v8, rfl, x8, b8⟩; have HA8 := Lib.hid (HA7.out.later b8); have X8 := Lib.hid (x8.any (Nat.le_refl _)); clear x8 b8; have e2 : w8.cell? ⟨Q, 0, none⟩ = some (.int .i64 X.s) := HA8.out.bx.cell 0; have e3 : w8.cell? ⟨Q, 1, none⟩ = some (.slice X.E X.l X.c) := HA8.out.bx.cell 1)
                          | (go_at_call 28; refine (fit_is _ (p - S) (7 + i + 1) _ X8.out (by omega) (by omega) (p - S) 0 HF1.out).mono ?_; rintro e w9 ⟨rfl, b9⟩; have HA9 := Lib.hid (HA8.out.later b9); clear b9; have e4 : w9.cell? ⟨Q, 0, none⟩ = some (.int .i64 X.s) := HA9.out.bx.cell 0; have e5 : w9.cell? ⟨Q, 1, none⟩ = some (.slice X.E X.l X.c) := HA9.out.bx.cell 1))
                      all_goals
                        have ho9 := HA9.out.all.own
                        rw [HPL.out] at ho9
                        have HRP := Lib.hid ((Row.of_own ho9 (by decide)).weak (Nat.zero_le _))
                        clear ho9
                        go_wp2_with fail
                        refine (HO.out _ _ HRP.out).mono ?_
                        rintro e w10 ⟨B0, c0, rfl, hr0, hc0, hb0⟩
                        have HB10 := Lib.hid (HA9.out.all.be.trans (hb0.mono HA9.out.all.be.size))
                        clear hr0 hc0 hb0
                        go_wp2_with fail
                        go_ret2
                        rw [E1.out, E2.out]
                        exact ⟨none, 0, rfl, Row.none_, by simp, HB10.out⟩
                · clear hs0
                  obtain ⟨e1, e2⟩ := some_left HG.out (by rw [HS.out]; exact left_no2 hs)
                  have E1 := Lib.hid e1
                  have E2 := Lib.hid e2
                  have HF1 := Lib.hid (fit_no hs)
                  clear hs e1 e2
                  go_wp2_with fail
                  refine (fit_is _ S (7 + i) _ HE.out (by omega) (by omega) S 0 HF0.out).mono ?_
                  rintro e w5 ⟨rfl, b5⟩
                  have HA5 := Lib.hid (HRW2.out.later b5)
                  have k0 : w5.cell? ⟨Q, 0, none⟩ = some (.int .i64 X.s) := HA5.out.bx.cell 0
                  have k1 : w5.cell? ⟨Q, 1, none⟩ = some (.slice X.E X.l X.c) := HA5.out.bx.cell 1
                  clear b5 HE hb0 hb1
                  go_wp2_with fail
                  go_region_with
                    (first
                      | (go_at_call 27; refine (of_any (fun x => x ≠ Q ∧ (Value.slice (some ⟨go, 0, none⟩) q cb).ownBlock ≠ some x) p _ ?_ HP.out).mono ?_; exact (HA5.out.later (Later.refl w5).drew).new; rintro e w7 ⟨v7, rfl, x7, b7⟩; have HA7 := Lib.hid ((HA5.out.later (Later.refl w5).drew).later b7); have X7 := Lib.hid x7; clear x7 b7; have e0 : w7.cell? ⟨Q, 0, none⟩ = some (.int .i64 X.s) := HA7.out.bx.cell 0; have e1 : w7.cell? ⟨Q, 1, none⟩ = some (.slice X.E X.l X.c) := HA7.out.bx.cell 1)
                      | (go_at_call 29; refine (Exact.less_any (fun x => x ≠ Q ∧ (Value.slice (some ⟨go, 0, none⟩) q cb).ownBlock ≠ some x) _ _ p S (7 + i) _ ?_ ?_ ?_ (by omega)).mono ?_; exact HA7.out.new; exact X7.out.more (by omega); exact HA7.out.ex; rintro e w8 ⟨v8, rfl, x8, b8⟩; have HA8 := Lib.hid (HA7.out.later b8); have X8 := Lib.hid (x8.any (Nat.le_refl _)); clear x8 b8; have e2 : w8.cell? ⟨Q, 0, none⟩ = some (.int .i64 X.s) := HA8.out.bx.cell 0; have e3 : w8.cell? ⟨Q, 1, none⟩ = some (.slice X.E X.l X.c) := HA8.out.bx.cell 1)
                      | (go_at_call 28; refine (fit_is _ (p - S) (7 + i + 1) _ X8.out (by omega) (by omega) 0 3 HF1.out).mono ?_; rintro e w9 ⟨rfl, b9⟩; have HA9 := Lib.hid (HA8.out.later b9); clear b9; have e4 : w9.cell? ⟨Q, 0, none⟩ = some (.int .i64 X.s) := HA9.out.bx.cell 0; have e5 : w9.cell? ⟨Q, 1, none⟩ = some (.slice X.E X.l X.c) := HA9.out.bx.cell 1))
                  all_goals
                    go_wp2_with fail
                    go_ret2
                    rw [E1.out, E2.out]
                    exact ⟨none, 0, rfl, Row.none_, by simp, HA9.out.all.be⟩
              · obtain ⟨e1, e2⟩ := some_left HG.out (by rw [HS.out]; exact left_no1 hs0)
                have E1 := Lib.hid e1
                have E2 := Lib.hid e2
                have HF0 := Lib.hid (fit_no hs0)
                clear hs0 e1 e2
                go_wp2_with fail
                refine (fit_is _ S (7 + i) _ HE.out (by omega) (by omega) 0 3 HF0.out).mono ?_
                rintro e w5 ⟨rfl, b5⟩
                have HA5 := Lib.hid (HRW2.out.later b5)
                have k0 : w5.cell? ⟨Q, 0, none⟩ = some (.int .i64 X.s) := HA5.out.bx.cell 0
                have k1 : w5.cell? ⟨Q, 1, none⟩ = some (.slice X.E X.l X.c) := HA5.out.bx.cell 1
                clear b5 HE hb0 hb1
                go_wp2_with fail
                go_region_with
                  (first
                    | (go_at_call 27; refine (of_any (fun x => x ≠ Q ∧ (Value.slice (some ⟨go, 0, none⟩) q cb).ownBlock ≠ some x) p _ ?_ HP.out).mono ?_; exact (HA5.out.later (Later.refl w5).drew).new; rintro e w7 ⟨v7, rfl, x7, b7⟩; have HA7 := Lib.hid ((HA5.out.later (Later.refl w5).drew).later b7); have X7 := Lib.hid x7; clear x7 b7; have e0 : w7.cell? ⟨Q, 0, none⟩ = some (.int .i64 X.s) := HA7.out.bx.cell 0; have e1 : w7.cell? ⟨Q, 1, none⟩ = some (.slice X.E X.l X.c) := HA7.out.bx.cell 1)
                    | (go_at_call 29; refine (Exact.less_any (fun x => x ≠ Q ∧ (Value.slice (some ⟨go, 0, none⟩) q cb).ownBlock ≠ some x) _ _ p S (7 + i) _ ?_ ?_ ?_ (by omega)).mono ?_; exact HA7.out.new; exact X7.out.more (by omega); exact HA7.out.ex; rintro e w8 ⟨v8, rfl, x8, b8⟩; have HA8 := Lib.hid (HA7.out.later b8); have X8 := Lib.hid (x8.any (Nat.le_refl _)); clear x8 b8; have e2 : w8.cell? ⟨Q, 0, none⟩ = some (.int .i64 X.s) := HA8.out.bx.cell 0; have e3 : w8.cell? ⟨Q, 1, none⟩ = some (.slice X.E X.l X.c) := HA8.out.bx.cell 1)
                    | (go_at_call 28; refine (fit_is _ (p - S) (7 + i + 1) _ X8.out (by omega) (by omega) _ _ ⟨rfl, rfl⟩).mono ?_; rintro e w9 ⟨rfl, b9⟩; have HA9 := Lib.hid (HA8.out.later b9); clear b9; have e4 : w9.cell? ⟨Q, 0, none⟩ = some (.int .i64 X.s) := HA9.out.bx.cell 0; have e5 : w9.cell? ⟨Q, 1, none⟩ = some (.slice X.E X.l X.c) := HA9.out.bx.cell 1))
                all_goals
                  go_wp2_with fail
                  go_ret2
                  rw [E1.out, E2.out]
                  exact ⟨none, 0, rfl, Row.none_, by simp, HA9.out.all.be⟩
end Go.Proofs.Ytkceeifhnohioaa.PO
