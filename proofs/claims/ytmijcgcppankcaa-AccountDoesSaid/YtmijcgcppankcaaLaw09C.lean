/- The walk of the law AccountClosed. -/
import Derived.Test.YtmijcgcppankcaaAcctQ
namespace Go.Proofs.Ytmijcgcppankcaa.AC
open Go.RowKit Go.Proofs.Ytmijcgcppankcaa.Cents Go.Proofs.Ytmijcgcppankcaa.MV Go.Proofs.Ytmijcgcppankcaa.Net Go.Proofs.Ytmijcgcppankcaa.CO
open Go.Maps (Keyed)
set_option linter.unusedVariables false
set_option linter.unusedSimpArgs false

theorem large_noC {x : Int} {ops : List OpV} (h : largeB x ops = false) : (∀ o ∈ ops, o.ps.length ≤ 40) ∧ ops.length ≤ 24 := by
  unfold largeB at h
  rw [Bool.or_eq_false_iff, List.any_eq_false, decide_eq_false_iff_not] at h
  refine ⟨fun o ho => ?_, ?_⟩
  · have := h.1 o ho
    simp at this
    exact this
  · have := h.2
    unfold bigP at this
    omega
/-- The facts that a law has of its operations. -/
structure OpsQ (W : World) (A : Option Addr) (ops : List OpV) : Prop where
  q : ∀ o ∈ ops, o.Q W
  r : Row W 0 A (ops.flatMap OpV.cell)
  l : ops.length ≤ maxLen
theorem OpsQ.large {W : World} {A : Option Addr} {ops : List OpV} (h : OpsQ W A ops) (x : Int) (hx : I64 x) (c : Nat) (w1 : World) (hb : Below W.heap.size W w1) (b : Bool) (hb2 : largeB x ops = b) :
    Calls Try.prog 8 #[.int .i64 x, .slice A ops.length c] w1 fun e w' => e = .returned (.bool b) ∧ w1 = w' :=
  large_is x A ops c w1 hx (h.r.below hb) (fun o ho => (h.q o ho).l) h.l b hb2
theorem cll_no (x : Int) (A : Option Addr) (ops : List OpV) (c : Nat) (A2 : Option Addr) (ops2 : List OpV) (c2 : Nat) (a k q : Int) (W : World) (hx : I64 x) (h1 : OpsQ W A ops) (h2 : OpsQ W A2 ops2) (h : largeB x ops = true ∨ largeB x ops2 = true ∨ newE x ≠ 0) :
    Calls Try.prog 5 #[.int .i64 x, .slice A ops.length c, .slice A2 ops2.length c2, .int .i64 a, .int .i64 k, .int .i64 q] W fun e w' => e = .returned (.bool true) ∧ Below W.heap.size W w' := by
  have HL := Lib.hid (h1.large x hx c)
  have HL2 := Lib.hid (h2.large x hx c2)
  clear h1 h2
  cases hB : largeB x ops with
  | true =>
    have HB := Lib.hid hB
    clear hB h HL2
    generalize ops.length = n at *
    generalize ops2.length = n2 at *
    go_enter Try.func5, Try.ntmps5
    go_wp2_with fail
    refine (awake09 _).mono ?_
    rintro e w1 ⟨rfl, hb⟩
    have HB1 := Lib.hid hb
    clear hb
    go_wp2_with fail
    refine (HL.out _ HB1.out true HB.out).mono ?_
    rintro e w2 ⟨rfl, rfl⟩
    go_wp2_with fail
    go_ret
    exact ⟨rfl, HB1.out⟩
  | false =>
    have h := h.resolve_left (by rw [hB]; decide)
    cases hB2 : largeB x ops2 with
    | true =>
      have HB := Lib.hid hB
      have HB2 := Lib.hid hB2
      clear hB hB2 h
      generalize ops.length = n at *
      generalize ops2.length = n2 at *
      go_enter Try.func5, Try.ntmps5
      go_wp2_with fail
      refine (awake09 _).mono ?_
      rintro e w1 ⟨rfl, hb⟩
      have HB1 := Lib.hid hb
      clear hb
      go_wp2_with fail
      refine (HL.out _ HB1.out false HB.out).mono ?_
      rintro e w2 ⟨rfl, rfl⟩
      go_wp2_with fail
      refine (HL2.out _ HB1.out true HB2.out).mono ?_
      rintro e w2 ⟨rfl, rfl⟩
      go_wp2_with fail
      go_ret
      exact ⟨rfl, HB1.out⟩
    | false =>
      have hne : newE x ≠ 0 := h.resolve_left (by rw [hB2]; decide)
      have HNO := Lib.hid (fun w1 => new_no x w1 hx hne)
      have HB := Lib.hid hB
      have HB2 := Lib.hid hB2
      clear hB hB2 h hne
      generalize ops.length = n at *
      generalize ops2.length = n2 at *
      go_enter Try.func5, Try.ntmps5
      go_wp2_with fail
      refine (awake09 _).mono ?_
      rintro e w1 ⟨rfl, hb⟩
      have HB1 := Lib.hid hb
      clear hb
      go_wp2_with fail
      refine (HL.out _ HB1.out false HB.out).mono ?_
      rintro e w2 ⟨rfl, rfl⟩
      go_wp2_with fail
      refine (HL2.out _ HB1.out false HB2.out).mono ?_
      rintro e w2 ⟨rfl, rfl⟩
      go_wp2_with fail
      refine (HNO.out _).mono ?_
      rintro e w3 ⟨rfl, hb⟩
      have HB3 := Lib.hid (HB1.out.trans (hb.mono HB1.out.size))
      clear hb
      go_wp2_with fail
      go_ret
      exact ⟨rfl, HB3.out⟩
/-- One operation, from a loop over them. -/
theorem OpsQ.at_ {W wr : World} {ad : Addr} {ops : List OpV} {b0 L per : Nat} {s : St} (h : OpsQ W (some ad) ops) (h40 : ∀ o ∈ ops, o.ps.length ≤ 40) (hLr : Led b0 L per s wr) (hPr : LedP per s) (hbr : Below W.heap.size W wr) (o : OpV) (hm : o ∈ ops) (ob : Obj) :
    Calls Try.prog 11 #[lv L, o.val] (wr.alloc ob) (OLed b0 L per s o (wr.alloc ob)) := by
  have hoQ := h.q o hm
  have hal := alloc1 wr ob
  exact do_led (hLr.later hal) hPr o ⟨hoQ.d, hoQ.p, hoQ.e, (hoQ.r.below hbr).below hal, hoQ.i, hoQ.l⟩ (by have := h40 o hm; omega)
set_option maxHeartbeats 8000000 in
set_option maxRecDepth 100000 in
theorem cll_go (x : Int) (A : Option Addr) (ops : List OpV) (c : Nat) (A2 : Option Addr) (ops2 : List OpV) (c2 : Nat) (a k q : Int) (W : World) (hx : I64 x) (h1 : OpsQ W A ops) (h2 : OpsQ W A2 ops2) (ha : I64 a) (hk : I64 k) (hq : I64 q) (hB : largeB x ops = false) (hB2 : largeB x ops2 = false) (hne : newE x = 0) :
    Calls Try.prog 5 #[.int .i64 x, .slice A ops.length c, .slice A2 ops2.length c2, .int .i64 a, .int .i64 k, .int .i64 q] W fun e w' => e = .returned (.bool true) ∧ Below W.heap.size W w' := by
  obtain ⟨h40, h24⟩ := large_noC hB
  obtain ⟨h402, h242⟩ := large_noC hB2
  have HLA := Lib.hid (fun w1 hb => h1.large x hx c w1 hb false hB)
  have HLA2 := Lib.hid (fun w1 hb => h2.large x hx c2 w1 hb false hB2)
  have HNO := Lib.hid (fun w1 => new_led x w1 hx hne)
  have H1 := Lib.hid h1
  have H2 := Lib.hid h2
  have H40 := Lib.hid h40
  have H402 := Lib.hid h402
  obtain ⟨n, hn⟩ : ∃ n, ops.length = n := ⟨_, rfl⟩
  obtain ⟨n2, hn2⟩ : ∃ n, ops2.length = n := ⟨_, rfl⟩
  rw [hn] at HLA h24 ⊢
  rw [hn2] at HLA2 h242 ⊢
  have HN := Lib.hid hn
  have HN2 := Lib.hid hn2
  clear h1 h2 hB hB2 hne h40 h402 hn hn2
  go_enter Try.func5, Try.ntmps5
  go_wp2_with fail
  refine (awake09 _).mono ?_
  rintro e w1 ⟨rfl, hb⟩
  have HB1 := Lib.hid hb
  clear hb
  go_wp2_with fail
  refine (HLA.out _ HB1.out).mono ?_
  rintro e w2 ⟨rfl, rfl⟩
  go_wp2_with fail
  refine (HLA2.out _ HB1.out).mono ?_
  rintro e w2 ⟨rfl, rfl⟩
  go_wp2_with fail
  refine (HNO.out _).mono ?_
  rintro e w3 ⟨L, per, rfl, rfl, hL, hP, hb⟩
  obtain ⟨b0, hb0⟩ : ∃ b0, w1.heap.size = b0 := ⟨_, rfl⟩
  have hWb : W.heap.size ≤ b0 := by have := HB1.out.size; omega
  rw [hb0] at hL
  have HL3 := Lib.hid hL
  have HP3 := Lib.hid hP
  have HB3 := Lib.hid (HB1.out.trans (hb.mono HB1.out.size))
  clear hb hL hP hb0 HNO HLA HLA2
  go_wp2_with fail
  go_loopw [50] (fun v wr => ∃ (j : Nat) (s : St), v = .int .i64 (j : Int) ∧ j ≤ n ∧ Led b0 L per s wr ∧ LedP per s ∧ Below W.heap.size W wr) (fun v _ => n - (intOf v).toNat)
  case atStart => exact ⟨0, ⟨0, []⟩, rfl, by omega, HL3.out, HP3.out, HB3.out⟩
  case round =>
    clear HL3 HP3 HB3
    obtain ⟨j, s, rfl, hj, hLr, hPr, hbr⟩ := hrel
    have g0 : (0 : Int) ≤ (j : Int) := Int.natCast_nonneg _
    by_cases hlt : j < n
    · have hjl : j < ops.length := by rw [HN.out]; exact hlt
      obtain ⟨ad, rfl, c0, c1, c2, c3⟩ := op_cells (H1.out.r.below hbr) hjl
      have hm : ops[j] ∈ ops := List.getElem_mem _
      obtain ⟨o, ho⟩ : ∃ o, o = ops[j] := ⟨_, rfl⟩
      rw [← ho] at c0 c1 c2 c3 hm
      have HD := Lib.hid (H1.out.at_ H40.out hLr hPr hbr o hm)
      have HBA := Lib.hid (fun ob => hbr.trans ((alloc1 wr ob).mono hbr.size))
      have HP2 := Lib.hid (ledp_op (o := o) hPr (H1.out.q o hm).i)
      have g1 : (j : Int) < (n : Int) := by omega
      clear hLr hPr hbr hm ho
      obtain ⟨od, op, oe, oA, oc, ps⟩ := o
      unfold OpV.val at HD
      dsimp only at HD c0 c1 c2 c3
      obtain ⟨m, hm⟩ : ∃ m, ps.length = m := ⟨_, rfl⟩
      rw [hm] at HD c3
      clear hm
      go_wp2_with fail
      refine (HD.out _).mono ?_
      rintro e w6 ⟨rfl, hL6, hk6⟩
      have HL6 := Lib.hid hL6
      have HB6 := Lib.hid (hk6.below (HBA.out _) hWb)
      clear hL6 hk6
      go_wp2_with fail
      go_roundw
      case rel => exact ⟨j + 1, _, by go_num, by omega, HL6.out, HP2.out, HB6.out⟩
      case measure => simp only [intOf]; omega
    · obtain rfl : j = n := by omega
      have HLR := Lib.hid hLr
      have HPR := Lib.hid hPr
      have HBR := Lib.hid hbr
      have HOP := Lib.hid (open_led hLr)
      clear hLr hPr hbr
      by_cases hqo : s.opn ≤ q
      · obtain ⟨so, hso⟩ : ∃ so, s.opn = so := ⟨_, rfl⟩
        rw [hso] at HOP hqo
        clear hso
        go_wp2_with fail
        refine HOP.out.mono ?_
        rintro e w5 ⟨rfl, rfl⟩
        go_wp2_with fail
        go_ret
        exact ⟨rfl, HBR.out⟩
      · have hqo : q < s.opn := by omega
        have HQO := Lib.hid hqo
        have HMO := Lib.hid (moved_led HLR.out HPR.out a k q ha hk hq _ rfl)
        have HBL := Lib.hid (balance_led HLR.out HPR.out a k q ha hk hq _ rfl)
        have HTO := Lib.hid (fun w9 (hb9 : Below wr.heap.size wr w9) => total_led (HLR.out.later hb9) HPR.out a q _ _ ⟨rfl, rfl⟩)
        have HST := Lib.hid (fun s' (h : Stays s.opn s s') => (show movR per s'.es a k q = movR per s.es a k q ∧ balR per s'.es a k q = balR per s.es a k q ∧ totN per s'.es a q = totN per s.es a q ∧ totE per s'.es a q = totE per s.es a q from ⟨mov_stays h hqo a k, bal_stays h hqo a k, (tot_stays h hqo a).1, (tot_stays h hqo a).2⟩))
        obtain ⟨mv, hmv⟩ : ∃ z, movR per s.es a k q = z := ⟨_, rfl⟩
        obtain ⟨bl, hbl⟩ : ∃ z, balR per s.es a k q = z := ⟨_, rfl⟩
        obtain ⟨tn, htn⟩ : ∃ z, totN per s.es a q = z := ⟨_, rfl⟩
        obtain ⟨te, hte⟩ : ∃ z, totE per s.es a q = z := ⟨_, rfl⟩
        rw [hmv] at HMO
        rw [hbl] at HBL
        rw [htn, hte] at HTO
        rw [hmv, hbl, htn, hte] at HST
        obtain ⟨so, hso⟩ : ∃ so, s.opn = so := ⟨_, rfl⟩
        rw [hso] at HOP hqo HST
        have HSO := Lib.hid hso
        have hqo2 : ¬ so ≤ q := by omega
        clear hso hmv hbl htn hte
        go_wp2_with fail
        refine HOP.out.mono ?_
        rintro e w5 ⟨rfl, rfl⟩
        go_wp2_with fail
        refine HMO.out.mono ?_
        rintro e w5 ⟨rfl, rfl⟩
        go_wp2_with fail
        refine HBL.out.mono ?_
        rintro e w6 ⟨rfl, hb6⟩
        have HB6 := Lib.hid hb6
        clear hb6
        go_wp2_with fail
        refine (HTO.out _ HB6.out).mono ?_
        rintro e w7 ⟨rfl, hb7⟩
        have HB7 := Lib.hid (HB6.out.trans (hb7.mono HB6.out.size))
        have HL7 := Lib.hid (HLR.out.later HB7.out)
        have HW7 := Lib.hid (HBR.out.trans (HB7.out.mono HBR.out.size))
        clear hb7
        go_wp2_with fail
        go_loopw [81] (fun v wr => ∃ (j : Nat) (s' : St), v = .int .i64 (j : Int) ∧ j ≤ n2 ∧ Led b0 L per s' wr ∧ LedP per s' ∧ Below W.heap.size W wr ∧ Stays so s s') (fun v _ => n2 - (intOf v).toNat)
        case atStart => exact ⟨0, s, rfl, by omega, HL7.out, HPR.out, HW7.out, Stays.refl _ _⟩
        case round =>
          clear HL7 HW7 HB7 HB6 HPR HOP HMO HBL HTO HLR HBR
          obtain ⟨j, s', rfl, hj, hLr, hPr, hbr, hst⟩ := hrel
          have g0 : (0 : Int) ≤ (j : Int) := Int.natCast_nonneg _
          by_cases hlt : j < n2
          · have hjl : j < ops2.length := by rw [HN2.out]; exact hlt
            obtain ⟨ad, rfl, c0, c1, c2, c3⟩ := op_cells (H2.out.r.below hbr) hjl
            have hm : ops2[j] ∈ ops2 := List.getElem_mem _
            obtain ⟨o, ho⟩ : ∃ o, o = ops2[j] := ⟨_, rfl⟩
            rw [← ho] at c0 c1 c2 c3 hm
            have HD := Lib.hid (H2.out.at_ H402.out hLr hPr hbr o hm)
            have HOP := Lib.hid (fun ob => open_led (hLr.later (alloc1 wr ob)))
            have HBA := Lib.hid (fun ob => hbr.trans ((alloc1 wr ob).mono hbr.size))
            have HP2 := Lib.hid (ledp_op (o := o) hPr (H2.out.q o hm).i)
            have HS2 := Lib.hid (hst.trans (stays_op (per := per) (o := o) (by have := hst.1; have := HSO.out; omega)))
            have HNE := Lib.hid (fun hE hd => new_entry (per := per) (s := s') (o := o) hE hd)
            have g1 : (j : Int) < (n2 : Int) := by omega
            have hQd := (H2.out.q o hm).d
            have HBX := Lib.hid (fun (cs : Array Value) => Blk.new wr 34 cs)
            have HKB := Lib.hid (fun (w9 : World) (cs : Array Value) (h9 : Kp b0 (wr.alloc (.cells cs 34)) w9) => h9.blk (Blk.new wr 34 cs) (by decide) (by decide))
            clear hLr hPr hbr hm ho hst
            obtain ⟨od, op, oe, oA, oc, ps⟩ := o
            unfold OpV.val at HD
            dsimp only at HD c0 c1 c2 c3 hQd
            obtain ⟨m, hm⟩ : ∃ m, ps.length = m := ⟨_, rfl⟩
            rw [hm] at HD c3
            clear hm
            go_wp2_with fail
            refine (HOP.out _).mono ?_
            rintro e w5 ⟨rfl, rfl⟩
            go_wp2_with fail
            refine (HD.out _).mono ?_
            rintro e w6 ⟨rfl, hL6, hk6⟩
            have HL6 := Lib.hid hL6
            have HB6 := Lib.hid (hk6.below (HBA.out _) hWb)
            have hblk := HKB.out w6 _ hk6
            have z0 : w6.cell? ⟨wr.heap.size, 0, none⟩ = some (.int .i64 od) := hblk.cell 0
            have HBK := Lib.hid hblk
            clear hL6 hk6 hblk
            have HEN := Lib.hid (entry_led HL6.out HP2.out (oN per s' ⟨od, op, oe, oA, oc, ps⟩))
            obtain ⟨oo, hoo⟩ : ∃ z, s'.opn = z := ⟨_, rfl⟩
            rw [hoo] at HNE ⊢
            have HOO := Lib.hid hoo
            clear hoo
            obtain ⟨eo, heo⟩ : ∃ z, oE per s' ⟨od, op, oe, oA, oc, ps⟩ = z := ⟨_, rfl⟩
            rw [heo] at HNE ⊢
            clear heo
            go_wp2_with fail
            refine HEN.out.mono ?_
            rintro e w7 ⟨B, cap, rfl, _, hb7⟩
            have HB7 := Lib.hid (HB6.out.trans (hb7.mono HB6.out.size))
            have HL7 := Lib.hid (HL6.out.later hb7)
            have hblk7 := HBK.out.below hb7 HBK.out.lt
            have z7 : w7.cell? ⟨wr.heap.size, 0, none⟩ = some (.int .i64 od) := hblk7.cell 0
            clear hb7 hblk7 z0 HEN HBK HL6 HB6 HD
            have hcase : (0 ≤ od ∧ od < 2 ∧ eo = 0 ∧ enE (oS per s' ⟨od, op, oe, oA, oc, ps⟩) (oN per s' ⟨od, op, oe, oA, oc, ps⟩) = 0 ∧ ¬ enN (oS per s' ⟨od, op, oe, oA, oc, ps⟩) (oN per s' ⟨od, op, oe, oA, oc, ps⟩) < oo) ∨ (2 ≤ od) ∨ (od < 0) ∨ (0 ≤ od ∧ od < 2 ∧ (eo == 0) = false) := by
              by_cases q1 : 2 ≤ od
              · exact .inr (.inl q1)
              · by_cases q2 : od < 0
                · exact .inr (.inr (.inl q2))
                · by_cases q3 : eo = 0
                  · have := HNE.out q3 (show od = 0 ∨ od = 1 by omega)
                    exact .inl ⟨by omega, by omega, q3, this.1, by omega⟩
                  · exact .inr (.inr (.inr ⟨by omega, by omega, by simpa using q3⟩))
            obtain ⟨u1, hu1⟩ : ∃ z, enE (oS per s' ⟨od, op, oe, oA, oc, ps⟩) (oN per s' ⟨od, op, oe, oA, oc, ps⟩) = z := ⟨_, rfl⟩
            obtain ⟨u2, hu2⟩ : ∃ z, enN (oS per s' ⟨od, op, oe, oA, oc, ps⟩) (oN per s' ⟨od, op, oe, oA, oc, ps⟩) = z := ⟨_, rfl⟩
            obtain ⟨u3, hu3⟩ : ∃ z, (enP (oS per s' ⟨od, op, oe, oA, oc, ps⟩) (oN per s' ⟨od, op, oe, oA, oc, ps⟩)).length = z := ⟨_, rfl⟩
            rw [hu1, hu2] at hcase
            rw [hu1, hu2, hu3]
            clear hu1 hu2 hu3 HNE
            rcases hcase with ⟨q1, q2, rfl, rfl, q5⟩ | q1 | q1 | ⟨q1, q2, q3⟩
            · go_wp2_with fail
              go_roundw
              case rel => exact ⟨j + 1, _, by go_num, by omega, HL7.out, HP2.out, HB7.out, HS2.out⟩
              case measure => simp only [intOf]; omega
            · have q2 : ¬ od < 2 := by omega
              go_wp2_with fail
              go_roundw
              case rel => exact ⟨j + 1, _, by go_num, by omega, HL7.out, HP2.out, HB7.out, HS2.out⟩
              case measure => simp only [intOf]; omega
            · have q2 : od < 2 := by omega
              have q3 : ¬ 0 ≤ od := by omega
              go_wp2_with fail
              go_roundw
              case rel => exact ⟨j + 1, _, by go_num, by omega, HL7.out, HP2.out, HB7.out, HS2.out⟩
              case measure => simp only [intOf]; omega
            · go_wp2_with fail
              go_roundw
              case rel => exact ⟨j + 1, _, by go_num, by omega, HL7.out, HP2.out, HB7.out, HS2.out⟩
              case measure => simp only [intOf]; omega
          · obtain rfl : j = n2 := by omega
            obtain ⟨e1, e2, e3, e4⟩ := HST.out s' hst
            have HTO := Lib.hid (total_led hLr hPr a q tn te ⟨e3, e4⟩)
            have HMO := Lib.hid (fun w9 (hb9 : Below wr.heap.size wr w9) => moved_led (hLr.later hb9) hPr a k q ha hk hq mv e1)
            have HBL := Lib.hid (fun w9 (hb9 : Below wr.heap.size wr w9) => balance_led (hLr.later hb9) hPr a k q ha hk hq bl e2)
            have HBR := Lib.hid hbr
            clear hLr hPr hbr hst e1 e2 e3 e4
            go_wp2_with fail
            refine HTO.out.mono ?_
            rintro e w5 ⟨rfl, hb5⟩
            have HB5 := Lib.hid hb5
            clear hb5
            go_wp2_with fail
            refine (HMO.out _ HB5.out).mono ?_
            rintro e w6 ⟨rfl, rfl⟩
            go_wp2_with fail
            refine (HBL.out _ HB5.out).mono ?_
            rintro e w7 ⟨rfl, hb7⟩
            have HB7 := Lib.hid (HBR.out.trans ((HB5.out.trans (hb7.mono HB5.out.size)).mono HBR.out.size))
            clear hb7
            go_wp2_with fail
            go_ret
            exact ⟨rfl, HB7.out⟩
theorem closed_walk (x : Int) (A : Option Addr) (ops : List OpV) (c : Nat) (A2 : Option Addr) (ops2 : List OpV) (c2 : Nat) (a k q : Int) (W : World) (hx : I64 x) (hQ : ∀ o ∈ ops, o.Q W) (hr : Row W 0 A (ops.flatMap OpV.cell)) (hsz : ops.length * 48 ≤ 140737488351232)
    (hQ2 : ∀ o ∈ ops2, o.Q W) (hr2 : Row W 0 A2 (ops2.flatMap OpV.cell)) (hsz2 : ops2.length * 48 ≤ 140737488351232) (ha : I64 a) (hk : I64 k) (hq : I64 q) :
    Calls Try.prog 5 #[.int .i64 x, .slice A ops.length c, .slice A2 ops2.length c2, .int .i64 a, .int .i64 k, .int .i64 q] W fun e w' => e = .returned (.bool true) ∧ Below W.heap.size W w' := by
  have h1 : OpsQ W A ops := ⟨hQ, hr, by unfold maxLen; omega⟩
  have h2 : OpsQ W A2 ops2 := ⟨hQ2, hr2, by unfold maxLen; omega⟩
  cases hB : largeB x ops with
  | true => exact cll_no x A ops c A2 ops2 c2 a k q W hx h1 h2 (.inl hB)
  | false =>
    cases hB2 : largeB x ops2 with
    | true => exact cll_no x A ops c A2 ops2 c2 a k q W hx h1 h2 (.inr (.inl hB2))
    | false =>
      by_cases hne : newE x = 0
      · exact cll_go x A ops c A2 ops2 c2 a k q W hx h1 h2 ha hk hq hB hB2 hne
      · exact cll_no x A ops c A2 ops2 c2 a k q W hx h1 h2 (.inr (.inr hne))
end Go.Proofs.Ytmijcgcppankcaa.AC
