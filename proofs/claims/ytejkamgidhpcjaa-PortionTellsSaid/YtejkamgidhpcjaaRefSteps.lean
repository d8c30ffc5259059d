/- The walk of the reference's Steps. -/
import Derived.Test.YtejkamgidhpcjaaSteps
import Derived.Test.YtejkamgidhpcjaaAcc
import Derived.Test.YtejkamgidhpcjaaIs01
import Derived.Test.YtejkamgidhpcjaaLaw02W
import Derived.Test.YtejkamgidhpcjaaApp0
import Derived.Test.YtejkamgidhpcjaaOwn
import Derived.Deep.QuietTactic
import Derived.BigQuiet
import Derived.Deep.DeepCutAuto
namespace Go.Proofs.Ytejkamgidhpcjaa.PO
open Go.RowKit Go.Proofs.Ytejkamgidhpcjaa.Cents Go.Proofs.Ytejkamgidhpcjaa.CO Go.Proofs.Ytejkamgidhpcjaa.Exact
set_option linter.unusedVariables false
set_option linter.unusedSimpArgs false

theorem fit_id {n : Int} (h : I64 n) : fitN n = n ∧ fitE n = 0 := by unfold fitN fitE; rw [if_pos h, if_pos h]; exact ⟨rfl, rfl⟩

theorem Later.al {w w1 : World} {o : Obj} (h : Below (w.alloc o).heap.size (w.alloc o) w1) : Later w w1 := Later.trans (Below.alloc1 w o) h
theorem Blk.al {w w1 : World} {t : TypeId} {cs : Array Value} (h : Below (w.alloc (.cells cs t)).heap.size (w.alloc (.cells cs t)) w1) : Blk w1 w.heap.size t cs := (Blk.new w t cs).below h (Blk.new w t cs).lt
theorem Blk.two {w : World} {g t : Nat} {a b : Value} (h : Blk w g t #[a, b]) : w.cell? ⟨g, 0, none⟩ = some a ∧ w.cell? ⟨g, 1, none⟩ = some b := ⟨h.cell 0, h.cell 1⟩
theorem new_al (w : World) (o : Obj) : New (w.alloc o) (fun q => q ≠ w.heap.size) := fun q hq => by
  have : w.heap.size < (w.alloc o).heap.size := by simp
  show q ≠ w.heap.size
  omega
abbrev notOf {w : World} {g t : Nat} {cs : Array Value} (_ : Blk w g t cs) : Nat → Prop := fun q => q ≠ g
theorem notOf_new {w : World} {g t : Nat} {cs : Array Value} (h : Blk w g t cs) : New w (notOf h) := fun q hq => by
  have := h.lt
  show q ≠ g
  omega

set_option maxHeartbeats 2000000 in
set_option maxRecDepth 100000 in
theorem rsteps_any (T W : Int) (A : Option Addr) (ms : List Int) (c : Nat) (w : World) (hT : I64 T) (hW : I64 W) (hx : ∀ x ∈ ms, I64 x) (hr : Row w 0 A (ints ms)) (hl : ms.length * 8 ≤ 140737488351232) :
    Calls Try.prog 20 #[.int .i64 T, .slice A ms.length c, .int .i64 W] w (RetL w (stV T W ms) (stE W ms)) := by
  have HR := Lib.hid hr
  have HX := Lib.hid hx
  have HT := Lib.hid hT
  have HW := Lib.hid hW
  obtain ⟨E, hE⟩ : ∃ E, stE W ms = E := ⟨_, rfl⟩
  obtain ⟨V, hV⟩ : ∃ V, stV T W ms = V := ⟨_, rfl⟩
  unfold stV at hV
  rw [hE] at hV
  rw [hE, show stV T W ms = V by unfold stV; rw [hE]; exact hV]
  have HE := Lib.hid hE
  have HV := Lib.hid hV
  obtain ⟨n, hn⟩ : ∃ n, ms.length = n := ⟨_, rfl⟩
  have HN := Lib.hid hn
  rw [hn] at hl ⊢
  have hne : ∀ e, stE W ms = e → e ≠ 0 → V = [] ∧ E = e := fun e h1 h2 => by
    have h3 := HE.out
    have h4 := HV.out
    rw [h1] at h3
    subst h3
    rw [if_neg h2] at h4
    exact ⟨h4.symm, rfl⟩
  have HNE := Lib.hid hne
  clear hr hx hT hW hE hV hn hne
  by_cases h1 : 64 < n
  · obtain ⟨rfl, rfl⟩ := HNE.out 4 (by unfold stE; rw [HN.out, if_pos h1]) (by decide)
    have h2 : decide ((64 : Int) < (n : Int)) = true := by simp; omega
    go_enter Try.func20, Try.ntmps20
    go_wp2_with fail
    go_ret2
    exact ⟨none, 0, rfl, Row.none_, by simp, Below.refl _ _⟩
  have h2 : decide ((64 : Int) < (n : Int)) = false := by simp; omega
  by_cases h3 : W < 1
  · obtain ⟨rfl, rfl⟩ := HNE.out 1 (by unfold stE; rw [HN.out, if_neg h1, if_pos h3]) (by decide)
    go_enter Try.func20, Try.ntmps20
    go_wp2_with fail
    go_ret2
    exact ⟨none, 0, rfl, Row.none_, by simp, Below.refl _ _⟩
  go_enter Try.func20, Try.ntmps20
  go_wp2_with fail
  go_loopw [8] (fun i wr => ∃ (k : Nat), i = .int .i64 (k : Int) ∧ k ≤ n ∧ (∀ i, i < k → Up ms W i) ∧ Below w.heap.size w wr) (fun i _ => n - (intOf i).toNat)
  case atStart => exact ⟨0, rfl, by omega, fun i hi => by omega, Below.refl _ _⟩
  case round =>
    obtain ⟨k, rfl, hk, hup, hbe⟩ := hrel
    have HBE := Lib.hid hbe
    clear hbe
    have HUP := Lib.hid hup
    clear hup
    have g0 : (0 : Int) ≤ (k : Int) := Int.natCast_nonneg _
    by_cases hlt : k < n
    · obtain ⟨ad, rfl, c0⟩ := int_cell (HR.out.below HBE.out) (j := k) (by rw [HN.out]; exact hlt)
      have g1 : (k : Int) < (n : Int) := by omega
      have hpp := up_pos HUP.out k (by omega)
      obtain ⟨m, hm⟩ : ∃ m, ms.getD k 0 = m := ⟨_, rfl⟩
      rw [hm] at c0
      have HM := Lib.hid hm
      have HMB := Lib.hid (fun (h : ¬ Up ms W k) => HNE.out 1 (stE_down (k := k) (by rw [HN.out]; omega) (by omega) (by rw [HN.out]; exact hlt) h) (by decide))
      have HMG := Lib.hid (fun (h : Up ms W k) (i : Nat) (hi : i < k + 1) => show Up ms W i from by
        rcases Nat.lt_or_ge i k with c | c
        · exact HUP.out i c
        · rw [show i = k by omega]; exact h)
      obtain ⟨pv, hpv⟩ : ∃ pv, prv ms k = pv := ⟨_, rfl⟩
      have HPV := Lib.hid hpv
      rw [hpv] at hpp
      have HPP := Lib.hid hpp
      have hmu : Up ms W k ↔ pv ≤ m ∧ m ≤ W := by unfold Up; rw [hpv, hm]
      have HMU := Lib.hid hmu
      clear hm hpv hpp hmu HNE HUP
      by_cases f1 : m < 0
      · obtain ⟨rfl, rfl⟩ := HMB.out (by rw [HMU.out]; have := HPP.out; omega)
        have f1' : decide (m < 0) = true := by simp; exact f1
        go_wp2_with fail
        go_quiet (fail)
        go_wp2_with fail
        go_ret2
        exact ⟨none, 0, rfl, Row.none_, by simp, below_in HBE.out (Quiet.below ⟨_, rfl⟩)⟩
      have f1' : decide (m < 0) = false := by simp; omega
      by_cases f2 : W < m
      · obtain ⟨rfl, rfl⟩ := HMB.out (by rw [HMU.out]; omega)
        have f2' : decide (W < m) = true := by simp; exact f2
        go_wp2_with fail
        go_quiet (fail)
        go_wp2_with fail
        go_ret2
        exact ⟨none, 0, rfl, Row.none_, by simp, below_in HBE.out (Quiet.below ⟨_, rfl⟩)⟩
      have f2' : decide (W < m) = false := by simp; omega
      by_cases f3 : k = 0
      · have f3' : decide (0 < k) = false := by simp; omega
        have f3b : ¬ (0 < k) := by omega
        have F3 := Lib.hid f3
        clear f3
        go_wp2_with fail
        go_big_quiet (fail)
        go_wp2_with fail
        go_roundw
        case rel => exact ⟨k + 1, by go_num, by omega, HMG.out (by rw [HMU.out]; have := HPV.out; rw [F3.out, prv_zero] at this; omega), below_in HBE.out (Quiet.below ⟨_, rfl⟩)⟩
        case measure => simp only [intOf]; omega
      have f3' : decide (0 < k) = true := by simp; omega
      have f3b : 0 < k := by omega
      obtain ⟨ad2, hae, c1⟩ := int_cell (HR.out.below HBE.out) (j := k - 1) (by rw [HN.out]; omega)
      cases hae
      rw [show ms.getD (k - 1) 0 = pv by rw [← HPV.out]; unfold prv; rw [if_neg f3]] at c1
      have g4 : ((k : Int) - 1).toNat = k - 1 := by omega
      have g5 : IntKind.i64.wrap ((k : Int) - 1) = (k : Int) - 1 := IntWalk.i64_in _ (by omega)
      have g6 : (0 : Int) ≤ (k : Int) - 1 := by omega
      have g7 : (k : Int) - 1 < (n : Int) := by omega
      by_cases f5 : m < pv
      · obtain ⟨rfl, rfl⟩ := HMB.out (by rw [HMU.out]; omega)
        have f5' : decide (m < pv) = true := by simp; exact f5
        go_wp2_with fail
        go_big_quiet (fail)
        go_wp2_with fail
        go_ret2
        exact ⟨none, 0, rfl, Row.none_, by simp, below_in HBE.out (Quiet.below ⟨_, rfl⟩)⟩
      · have f5' : decide (m < pv) = false := by simp; omega
        go_wp2_with fail
        go_big_quiet (fail)
        go_wp2_with fail
        go_roundw
        case rel => exact ⟨k + 1, by go_num, by omega, HMG.out (by rw [HMU.out]; omega), below_in HBE.out (Quiet.below ⟨_, rfl⟩)⟩
        case measure => simp only [intOf]; omega
    · obtain rfl : k = n := by omega
      have hE0 : stE W ms = 0 := stE_up (by rw [HN.out]; omega) (by omega) (by rw [HN.out]; exact HUP.out)
      have hE1 := HE.out
      rw [hE0] at hE1
      have hV1 := HV.out
      subst hE1
      rw [if_pos rfl] at hV1
      subst hV1
      clear hE0
      have HUQ := HUP
      clear HE HV HNE HUP
      obtain ⟨wo, rfl⟩ : ∃ wo : World, wo = wr := ⟨_, rfl⟩
      have hso : w.heap.size ≤ wo.heap.size := HBE.out.size
      go_wp2_with fail
      have HC := Lib.hid (AllW.mk (w0 := w) (out := []) (v := .slice (some ⟨wo.heap.size, 0, none⟩) 0 0) (own_empty wo 2 1 _ hso) (HBE.out.alloc hso _))
      go_loopw [9, 10] (fun v i wr => ∃ (j : Nat) (B : Option Addr) (cb : Nat), v = .slice B j cb ∧ i = .int .i64 (j : Int) ∧ j ≤ k ∧ AllW w ((stL T W ms).take j) v wr) (fun _ i _ => k - (intOf i).toNat)
      case atStart => exact ⟨0, _, 0, rfl, rfl, by omega, by simpa using HC.out⟩
      case round =>
        clear HC
        obtain ⟨j, B, cb, rfl, rfl, hj, hc⟩ := hrel
        have HC := Lib.hid hc
        clear hc
        have g2 : (0 : Int) ≤ (j : Int) := Int.natCast_nonneg _
        by_cases hjk : j < k
        · obtain ⟨ad, rfl, c0⟩ := int_cell (HR.out.below HC.out.be) (j := j) (by rw [HN.out]; exact hjk)
          have g3 : (j : Int) < (k : Int) := by omega
          have hjl : j < ms.length := by rw [HN.out]; exact hjk
          have hxm : I64 (ms.getD j 0) := by
            rw [List.getD_eq_getElem?_getD, List.getElem?_eq_getElem hjl]; exact HX.out _ (List.getElem_mem _)
          have hpp := up_pos HUQ.out j (by omega)
          have hum := HUQ.out j hjk
          unfold Up at hum
          have hcut := cuts HT.out (show 1 ≤ W by omega) hpp hum.1 hum.2
          have htk := stL_take (T := T) (W := W) hjl
          have hlt2 : ((stL T W ms).take j).length = j := by rw [List.length_take, stL_len]; omega
          obtain ⟨him, hip, hid, _, _⟩ := hcut
          obtain ⟨m, hm⟩ : ∃ m, ms.getD j 0 = m := ⟨_, rfl⟩
          rw [hm] at c0 hxm him hid htk
          obtain ⟨x, hx⟩ : ∃ x, T * m / W = x := ⟨_, rfl⟩
          obtain ⟨p, hp⟩ : ∃ p, T * prv ms j / W = p := ⟨_, rfl⟩
          rw [hx] at him hid htk
          rw [hp] at hip hid htk
          have HXM := Lib.hid hxm
          have HFI := Lib.hid (fit_id hid)
          have HTK := Lib.hid htk
          have HTL := Lib.hid hlt2
          have HOK := Lib.hid (over_ok HT.out hxm HW.out)
          have HXX := Lib.hid hx
          have HM := Lib.hid hm
          have hb1' : (j + 1) * 8 ≤ 140737488355328 := by omega
          have hb2' : j + 1 ≤ maxLen := by unfold maxLen; omega
          have hsz : w.heap.size ≤ wr.heap.size := HC.out.be.size
          have HZ := Lib.hid (AccW.zero w wr 616 HC.out.be)
          have HC1 := Lib.hid (HC.out.later (Below.alloc1 wr (.cells #[.int .i64 0, .slice none 0 0] 54)))
          have HRA := Lib.hid ((HR.out.below HC1.out.be))
          have hone : (1 : Int) ≤ W := by omega
          go_upto_if 64 with fail
          go_cut [] (fun wx => ∃ X : XV, AccW w wr.heap.size X p 616 wx ∧ AllW w ((stL T W ms).take j) (.slice B j cb) wx)
          case first =>
            by_cases ej : j = 0
            · have hp0 : p = 0 := by rw [← hp, ej, prv_zero]; simp
              have f6 : ¬ (0 < j) := by omega
              clear ej
              go_wp2_with fail
              go_meet
              case rel => exact ⟨_, by rw [hp0]; exact HZ.out, HC1.out⟩
            · have f6 : 0 < j := by omega
              obtain ⟨ad2, hae, c1⟩ := int_cell (HR.out.below HC1.out.be) (j := j - 1) (by omega)
              cases hae
              have hxi : I64 (ms.getD (j - 1) 0) := by
                rw [List.getD_eq_getElem?_getD, List.getElem?_eq_getElem (by omega)]; exact HX.out _ (List.getElem_mem _)
              rw [show prv ms j = ms.getD (j - 1) 0 by unfold prv; rw [if_neg ej]] at hp hpp
              obtain ⟨y, hy⟩ : ∃ y, ms.getD (j - 1) 0 = y := ⟨_, rfl⟩
              rw [hy] at hp hpp c1 hxi
              have g4 : ((j : Int) - 1).toNat = j - 1 := by omega
              have g5 : IntKind.i64.wrap ((j : Int) - 1) = (j : Int) - 1 := IntWalk.i64_in _ (by omega)
              have g6 : (0 : Int) ≤ (j : Int) - 1 := by omega
              have g7 : (j : Int) - 1 < (k : Int) := by omega
              have g8 : j ≤ k := by omega
              have g9 : (j : Int) ≤ (k : Int) := by omega
              have g10 : 1 ≤ j := by omega
              have g11 : (1 : Int) ≤ (j : Int) := by omega
              have HYI := Lib.hid hxi
              have HOY := Lib.hid (over_ok HT.out hxi HW.out)
              have HPP := Lib.hid hp
              go_wp2_with fail
              have hbq : ∀ i, wr.heap.size ≠ (ad.add i).block := fun i => by
                obtain ⟨ad3, hae3, cq⟩ := int_cell (HR.out.below HC.out.be) (j := j) (by rw [HN.out]; exact hjk)
                cases hae3
                have := cell_lt cq
                rw [block_add] at this ⊢
                omega
              generalize hwz : wr.alloc (Obj.cells #[Value.int IntKind.i64 0, Value.slice none 0 0] 54) = wz at HZ HC1 HRA c1 ⊢
              obtain ⟨Q, hQ⟩ : ∃ Q, wr.heap.size = Q := ⟨_, rfl⟩
              rw [hQ] at HZ hbq ⊢
              have HQ := Lib.hid hQ
              clear hwz hQ hp hpp c0 hxm him hip hid htk hlt2 hm hx HC hjl hum hxi hy HRA
              go_region_held3 (fun w' => w'.cell? (ad.add (j - 1)) = some (.int .i64 y))
                (first | exact cz | exact (World.cell?_setCell_far _ _ _ _ (hbq _)).trans ((World.cell?_setCell_far _ _ _ _ (hbq _)).trans cz) | exact c1)
                (first
                  | (go_at_call_of 30 T; refine (of_any (fun q => q ≠ Q) T _ ?_ HT.out).mono ?_; exact HZ.out.drew.new; rintro e w1 ⟨v1, rfl, x1, b1⟩; have HL1 := Lib.hid ((Later.refl wz).drew.trans b1); have X1 := Lib.hid x1; clear x1 b1; have cz := HL1.out.cell c1)
                  | (go_at_call_of 30 y; refine (of_any (fun q => q ≠ Q) y _ ?_ HYI.out).mono ?_; exact (HZ.out.later HL1.out).new; rintro e w2 ⟨v2, rfl, x2, b2⟩; have HL2 := Lib.hid (HL1.out.trans b2); have X1b := Lib.hid (X1.out.below b2); have X2 := Lib.hid x2; clear x2 b2; have cz := HL2.out.cell c1)
                  | (go_at_call 33; refine (by_any (fun q => q ≠ Q) _ _ T y 7 _ ?_ X1b.out X2.out (by decide)).mono ?_; exact (HZ.out.later HL2.out).new; rintro e w3 ⟨v3, rfl, x3, b3⟩; have HL3 := Lib.hid (HL2.out.trans b3); have X3 := Lib.hid x3; clear x3 b3; have cz := HL3.out.cell c1)
                  | (go_at_call_of 30 W; refine (of_any (fun q => q ≠ Q) W _ ?_ HW.out).mono ?_; exact (HZ.out.later HL3.out).new; rintro e w4 ⟨v4, rfl, x4, b4⟩; have HL4 := Lib.hid (HL3.out.trans b4); have X3b := Lib.hid (X3.out.below b4); have X4 := Lib.hid x4; clear x4 b4; have cz := HL4.out.cell c1)
                  | (go_at_call 34; refine (over_any (fun q => q ≠ Q) _ _ (T * y) W 16 _ ?_ X3b.out (X4.out.more (by decide)) (by decide) (by decide) hone HOY.out.1 HOY.out.2).mono ?_; exact (HZ.out.later HL4.out).new; rintro e w5 ⟨v5, rfl, x5, b5⟩; obtain ⟨⟨s5, E5, l5, c5⟩, rfl⟩ := x5.xv; have HL5 := Lib.hid (HL4.out.trans b5); have HA5 := Lib.hid (HZ.out.later HL5.out); have X5 := Lib.hid x5; clear x5 b5; have d3 := HA5.out.bx.frozen 0; have d4 := HA5.out.bx.frozen 1; have d5 : w5.cell? ⟨Q, 0, none⟩ = some (.int .i64 0) := HA5.out.bx.cell 0; have d6 : w5.cell? ⟨Q, 1, none⟩ = some (.slice none 0 0) := HA5.out.bx.cell 1; have cz := HL5.out.cell c1; try dsimp only [XV.val]))
              all_goals
                have HAQ := Lib.hid (show AccW w Q _ p 616 _ by rw [← HPP.out]; exact HA5.out.set ⟨s5, E5, l5, c5⟩ X5.out)
                have HCQ := Lib.hid ((HC1.out.later HL5.out).box2 HA5.out.bx HA5.out.hQ (.int .i64 s5) (.slice E5 l5 c5))
                have hQ := HQ.out
                subst hQ
                go_wp2_with fail
                go_meet
                case rel => exact ⟨_, HAQ.out, HCQ.out⟩
          case rest =>
            obtain ⟨X, haq, hcq⟩ := hcut
            obtain ⟨wq, rfl⟩ : ∃ wq : World, wq = wc := ⟨_, rfl⟩
            have HAQ := Lib.hid haq
            have HCQ := Lib.hid hcq
            clear haq hcq HZ HC1 HRA hp hpp c0 hxm him hip hid htk hlt2 hm hx HC hjl hum
            obtain ⟨Q, hQ⟩ : ∃ Q, wr.heap.size = Q := ⟨_, rfl⟩
            rw [hQ] at HAQ ⊢
            clear hQ
            obtain ⟨ad3, hae3, c0⟩ := int_cell (HR.out.below HCQ.out.be) (j := j) (by rw [HN.out]; exact hjk)
            cases hae3
            rw [HM.out] at c0
            go_upto_region 17 with fail
            go_cut [12] (fun v wx => ∃ (Q2 : Nat) (Y : XV), v = .pointer (some ⟨Q2, 0, none⟩) ∧ Blk wx Q 54 #[.int .i64 X.s, .slice X.E X.l X.c] ∧ Blk wx Q2 54 #[.int .i64 Y.s, .slice Y.E Y.l Y.c] ∧ Ex wx (fun _ => True) X.val p 616 ∧ Ex wx (fun _ => True) Y.val x 616 ∧ AllW w ((stL T W ms).take j) (.slice B j cb) wx)
            case first =>
              have c0d : wq.drew.cell? (ad.add j) = some (.int .i64 m) := c0
              have hbl := cell_lt c0
              have hzd : wq.drew.heap.size = wq.heap.size := rfl
              have hz0 : w.heap.size ≤ wq.heap.size := HCQ.out.be.size
              have hzQ : Q < wq.heap.size := HAQ.out.bx.lt
              have HL := Lib.hid (Later.refl wq)
              have HXP := Lib.hid (HAQ.out.ex.weak (G := fun q => q < wq.heap.size) (fun q _ hl => hl))
              go_region_held3 (fun w' => w'.cell? (ad.add j) = some (.int .i64 m))
                (first | exact cz | exact c0 | exact Later.cell (Below.alloc1 _ _) cz | exact Later.cell (Below.alloc1 _ _) c0d | (refine (World.cell?_setCell_far _ _ _ _ ?_).trans ((World.cell?_setCell_far _ _ _ _ ?_).trans ?_) <;> first | exact cz | exact Later.cell (Below.alloc1 _ _) cz | (dsimp only; omega)))
                (first
                  -- ARMS17
                  | (go_at_call_of 30 T; refine (of_any (fun q => q ≠ wq.heap.size) T (wq.alloc (.cells #[.int .i64 0, .slice none 0 0] 54)).drew ?_ HT.out).mono ?_; exact fun q hq => new_al wq (.cells #[.int .i64 0, .slice none 0 0] 54) q hq; rintro e w1 ⟨v1, rfl, x1, b1⟩; have hp := Lib.hid (show Later wq w1 from Later.trans (Later.drew (Below.alloc1 wq _)) b1); have hb := Lib.hid (show Blk w1 wq.heap.size 54 #[.int .i64 0, .slice none 0 0] from (Blk.new wq _ _).drew.below b1 (Blk.new wq _ _).drew.lt); have X1 := Lib.hid x1; have HL := Lib.hid (Later.trans HL.out hp.out); have cz := HL.out.cell c0; have hz1 : wq.heap.size ≤ w1.heap.size := HL.out.size; clear x1 b1 hp)
                  | (go_at_call_of 30 T; refine (of_any (fun _ => True) T _ ?_ HT.out).mono ?_; exact fun _ _ => trivial; rintro e w1 ⟨v1, rfl, x1, b1⟩; have hp := Lib.hid (show Later wq w1 from (Later.refl wq).drew.trans b1); have X1 := Lib.hid x1; have HL := Lib.hid (Later.trans HL.out hp.out); have cz := HL.out.cell c0; have hz1 : wq.heap.size ≤ w1.heap.size := HL.out.size; clear x1 b1 hp)
                  | (go_at_call_of 30 m; refine (of_any (fun q => q ≠ w1.heap.size) m (w1.alloc (.cells #[.int .i64 0, .slice none 0 0] 54)) ?_ HXM.out).mono ?_; exact new_al _ _; rintro e w2 ⟨v2, rfl, x2, b2⟩; have hp := Lib.hid (show Later w1 w2 from PO.Later.al b2); have hb := Lib.hid (show Blk w2 w1.heap.size 54 #[.int .i64 0, .slice none 0 0] from PO.Blk.al b2); have X1 := Lib.hid ((X1.out.weak (G := fun q => q ≠ w1.heap.size) (fun q _ hl => Nat.ne_of_lt hl)).below hp.out); have X2 := Lib.hid x2; have HL := Lib.hid (Later.trans HL.out hp.out); have cz := HL.out.cell c0; have hz2 : wq.heap.size ≤ w2.heap.size := HL.out.size; clear x2 b2 hp)
                  | (go_at_call_of 30 m; refine (of_any (notOf hb.out) m _ ?_ HXM.out).mono ?_; exact notOf_new hb.out; rintro e w2 ⟨v2, rfl, x2, b2⟩; have hp := Lib.hid (show Later w1 w2 from b2); have hb := Lib.hid (hb.out.below b2 hb.out.lt); have X1 := Lib.hid (X1.out.below hp.out); have X2 := Lib.hid x2; have HL := Lib.hid (Later.trans HL.out hp.out); have cz := HL.out.cell c0; have hz2 : wq.heap.size ≤ w2.heap.size := HL.out.size; clear x2 b2 hp)
                  | (go_at_call_of 30 m; refine (of_any (fun _ => True) m _ ?_ HXM.out).mono ?_; exact fun _ _ => trivial; rintro e w2 ⟨v2, rfl, x2, b2⟩; have hp := Lib.hid (show Later w1 w2 from b2); have X1 := Lib.hid (X1.out.below hp.out); have X2 := Lib.hid x2; have HL := Lib.hid (Later.trans HL.out hp.out); have cz := HL.out.cell c0; have hz2 : wq.heap.size ≤ w2.heap.size := HL.out.size; clear x2 b2 hp)
                  | (go_at_call 33; refine (by_any (fun q => q ≠ w2.heap.size) _ _ T m 7 (w2.alloc (.cells #[.int .i64 0, .slice none 0 0] 54)) ?_ ?_ ?_ (by decide)).mono ?_; exact new_al _ _; exact ((X1.out.weak (G := fun q => q ≠ w2.heap.size) (fun q _ hl => Nat.ne_of_lt hl)).below (Below.alloc1 _ _)); exact ((X2.out.weak (G := fun q => q ≠ w2.heap.size) (fun q _ hl => Nat.ne_of_lt hl)).below (Below.alloc1 _ _)); rintro e w3 ⟨v3, rfl, x3, b3⟩; have hp := Lib.hid (show Later w2 w3 from PO.Later.al b3); have hb := Lib.hid (show Blk w3 w2.heap.size 54 #[.int .i64 0, .slice none 0 0] from PO.Blk.al b3); have X3 := Lib.hid x3; have HL := Lib.hid (Later.trans HL.out hp.out); have cz := HL.out.cell c0; have hz3 : wq.heap.size ≤ w3.heap.size := HL.out.size; clear x3 b3 hp)
                  | (go_at_call 33; refine (by_any (notOf hb.out) _ _ T m 7 _ ?_ ?_ ?_ (by decide)).mono ?_; exact notOf_new hb.out; exact X1.out; exact X2.out; rintro e w3 ⟨v3, rfl, x3, b3⟩; have hp := Lib.hid (show Later w2 w3 from b3); have hb := Lib.hid (hb.out.below b3 hb.out.lt); have X3 := Lib.hid x3; have HL := Lib.hid (Later.trans HL.out hp.out); have cz := HL.out.cell c0; have hz3 : wq.heap.size ≤ w3.heap.size := HL.out.size; clear x3 b3 hp)
                  | (go_at_call 33; refine (by_any (fun _ => True) _ _ T m 7 _ ?_ ?_ ?_ (by decide)).mono ?_; exact fun _ _ => trivial; exact X1.out; exact X2.out; rintro e w3 ⟨v3, rfl, x3, b3⟩; have hp := Lib.hid (show Later w2 w3 from b3); have X3 := Lib.hid x3; have HL := Lib.hid (Later.trans HL.out hp.out); have cz := HL.out.cell c0; have hz3 : wq.heap.size ≤ w3.heap.size := HL.out.size; clear x3 b3 hp)
                  | (go_at_call_of 30 W; refine (of_any (fun q => q ≠ w3.heap.size) W (w3.alloc (.cells #[.int .i64 0, .slice none 0 0] 54)) ?_ HW.out).mono ?_; exact new_al _ _; rintro e w4 ⟨v4, rfl, x4, b4⟩; have hp := Lib.hid (show Later w3 w4 from PO.Later.al b4); have hb := Lib.hid (show Blk w4 w3.heap.size 54 #[.int .i64 0, .slice none 0 0] from PO.Blk.al b4); have X3 := Lib.hid ((X3.out.weak (G := fun q => q ≠ w3.heap.size) (fun q _ hl => Nat.ne_of_lt hl)).below hp.out); have X4 := Lib.hid x4; have HL := Lib.hid (Later.trans HL.out hp.out); have cz := HL.out.cell c0; have hz4 : wq.heap.size ≤ w4.heap.size := HL.out.size; clear x4 b4 hp)
                  | (go_at_call_of 30 W; refine (of_any (notOf hb.out) W _ ?_ HW.out).mono ?_; exact notOf_new hb.out; rintro e w4 ⟨v4, rfl, x4, b4⟩; have hp := Lib.hid (show Later w3 w4 from b4); have hb := Lib.hid (hb.out.below b4 hb.out.lt); have X3 := Lib.hid (X3.out.below hp.out); have X4 := Lib.hid x4; have HL := Lib.hid (Later.trans HL.out hp.out); have cz := HL.out.cell c0; have hz4 : wq.heap.size ≤ w4.heap.size := HL.out.size; clear x4 b4 hp)
                  | (go_at_call_of 30 W; refine (of_any (fun _ => True) W _ ?_ HW.out).mono ?_; exact fun _ _ => trivial; rintro e w4 ⟨v4, rfl, x4, b4⟩; have hp := Lib.hid (show Later w3 w4 from b4); have X3 := Lib.hid (X3.out.below hp.out); have X4 := Lib.hid x4; have HL := Lib.hid (Later.trans HL.out hp.out); have cz := HL.out.cell c0; have hz4 : wq.heap.size ≤ w4.heap.size := HL.out.size; clear x4 b4 hp)
                  | (go_at_call 34; refine (over_any (fun q => q ≠ w4.heap.size) _ _ (T * m) W 16 (w4.alloc (.cells #[.int .i64 0, .slice none 0 0] 54)) ?_ ?_ ?_ (by decide) (by decide) hone HOK.out.1 HOK.out.2).mono ?_; exact new_al _ _; exact ((X3.out.weak (G := fun q => q ≠ w4.heap.size) (fun q _ hl => Nat.ne_of_lt hl)).below (Below.alloc1 _ _)); exact ((X4.out.weak (G := fun q => q ≠ w4.heap.size) (fun q _ hl => Nat.ne_of_lt hl)).below (Below.alloc1 _ _)).more (by decide); rintro e w5 ⟨v5, rfl, x5, b5⟩; obtain ⟨⟨s5, E5, l5, c5⟩, rfl⟩ := x5.xv; have hp := Lib.hid (show Later w4 w5 from PO.Later.al b5); have hb := Lib.hid (show Blk w5 w4.heap.size 54 #[.int .i64 0, .slice none 0 0] from PO.Blk.al b5); have X5 := Lib.hid x5; have HL := Lib.hid (Later.trans HL.out hp.out); have cz := HL.out.cell c0; have hz5 : wq.heap.size ≤ w5.heap.size := HL.out.size; clear x5 b5 hp; have d3 := hb.out.frozen 0; have d4 := hb.out.frozen 1; obtain ⟨d5, d6⟩ := PO.Blk.two hb.out; try dsimp only [XV.val])
                  | (go_at_call 34; refine (over_any (notOf hb.out) _ _ (T * m) W 16 _ ?_ ?_ ?_ (by decide) (by decide) hone HOK.out.1 HOK.out.2).mono ?_; exact notOf_new hb.out; exact X3.out; exact X4.out.more (by decide); rintro e w5 ⟨v5, rfl, x5, b5⟩; obtain ⟨⟨s5, E5, l5, c5⟩, rfl⟩ := x5.xv; have hp := Lib.hid (show Later w4 w5 from b5); have hb := Lib.hid (hb.out.below b5 hb.out.lt); have X5 := Lib.hid x5; have HL := Lib.hid (Later.trans HL.out hp.out); have cz := HL.out.cell c0; have hz5 : wq.heap.size ≤ w5.heap.size := HL.out.size; clear x5 b5 hp; have d3 := hb.out.frozen 0; have d4 := hb.out.frozen 1; obtain ⟨d5, d6⟩ := PO.Blk.two hb.out; try dsimp only [XV.val])
                  | (go_at_call 34; refine (over_any (fun _ => True) _ _ (T * m) W 16 _ ?_ ?_ ?_ (by decide) (by decide) hone HOK.out.1 HOK.out.2).mono ?_; exact fun _ _ => trivial; exact X3.out; exact X4.out.more (by decide); rintro e w5 ⟨v5, rfl, x5, b5⟩; obtain ⟨⟨s5, E5, l5, c5⟩, rfl⟩ := x5.xv; have hp := Lib.hid (show Later w4 w5 from b5); have X5 := Lib.hid x5; have HL := Lib.hid (Later.trans HL.out hp.out); have cz := HL.out.cell c0; have hz5 : wq.heap.size ≤ w5.heap.size := HL.out.size; clear x5 b5 hp; try dsimp only [XV.val])
                  -- END17
                  )
              all_goals
                have HXF := Lib.hid (HXP.out.below HL.out)
                have HBF := Lib.hid (HAQ.out.bx.below HL.out HAQ.out.bx.lt)
                have HCF := Lib.hid (HCQ.out.later HL.out)
                rw [HXX.out] at X5
                go_wp2_with fail
                go_meet
                case rel => first
                  | exact ⟨_, ⟨s5, E5, l5, c5⟩, rfl, HBF.out.alloc _, Blk.new _ _ _, (HXF.out.below (Below.alloc1 _ _)).any (Nat.le_refl _), (X5.out.below (Below.alloc1 _ _)).any (Nat.le_refl _), HCF.out.later (Below.alloc1 _ _)⟩
                  | exact ⟨_, ⟨s5, E5, l5, c5⟩, rfl, (HBF.out.far (by dsimp only; omega) _).far (by dsimp only; omega) _, by simpa using (hb.out.set_ 0 (.int .i64 s5)).set_ 1 (.slice E5 l5 c5), ((HXF.out.setCell (by dsimp only; omega) _).setCell (by dsimp only; omega) _).any (Nat.le_refl _), ((X5.out.setCell (fun h => h rfl) _).setCell (fun h => h rfl) _).any (Nat.le_refl _), HCF.out.box2 hb.out (by omega) _ _⟩
            case rest =>
              obtain ⟨Q2, Y, hv, k1, k2, k3, k4, k5⟩ := hcut
              subst hv
              obtain ⟨ws, rfl⟩ : ∃ ws : World, ws = wc := ⟨_, rfl⟩
              have b0 : ws.cell? ⟨Q, 0, none⟩ = some (.int .i64 X.s) := k1.cell 0
              have b1 : ws.cell? ⟨Q, 1, none⟩ = some (.slice X.E X.l X.c) := k1.cell 1
              have b2 : ws.cell? ⟨Q2, 0, none⟩ = some (.int .i64 Y.s) := k2.cell 0
              have b3 : ws.cell? ⟨Q2, 1, none⟩ = some (.slice Y.E Y.l Y.c) := k2.cell 1
              have K3 := Lib.hid k3
              have K4 := Lib.hid k4
              have HC := Lib.hid k5
              clear k1 k2 k3 k4 k5 HAQ HCQ c0
              go_wp2_with fail
              refine (Exact.less_any (fun _ => True) _ _ x p 616 _ (fun _ _ => trivial) K4.out K3.out (by decide)).mono ?_
              rintro e w1 ⟨v1, rfl, x1, q1⟩
              have X1 := Lib.hid x1
              have HC1 := Lib.hid (HC.out.later q1)
              clear x1 q1 b0 b1 b2 b3
              go_wp2_with fail
              refine (fit_is _ (x - p) 617 _ X1.out (by decide) (by decide) (x - p) 0 HFI.out).mono ?_
              rintro e w2 ⟨rfl, q2⟩
              have HC2 := Lib.hid (HC1.out.later q2)
              have hsz : w.heap.size ≤ w2.heap.size := HC2.out.be.size
              have OW := Lib.hid (show w2.ownsRow w.heap.size 2 1 (.slice B j cb) j (ints ((stL T W ms).take j)) by have := HC2.out.own; rw [HTL.out] at this; exact this)
              clear q2
              go_wp2_with (at_builtin; refine wpList_app E_i64 rfl (.tmp 98) (.tmp 100) rfl rfl (OW.out.alloc _) ⟨w2.heap.size, 0, none⟩ 1 1 [.int .i64 (x - p)] rfl rfl (cell_one_new _ _ _) (one_cell _ _) hb1' hb2' (by simp; omega) (by decide) ?_; intro g cap w6 hown6 hg6 hat6; have HO6 := Lib.hid hown6; have HG6 := Lib.hid hg6; clear hown6 hg6 hat6)
              go_roundw
              case rel =>
                refine ⟨j + 1, _, _, rfl, by go_num, by omega, ?_⟩
                rw [HTK.out]
                exact HC2.out.step (by rw [HTL.out]; exact HO6.out) (by have := HG6.out; exact this)
              case measure => simp only [intOf]; omega
        · obtain rfl : j = k := by omega
          go_wp2_with fail
          go_ret2
          have htk : (stL T W ms).take j = stL T W ms := List.take_of_length_le (by rw [stL_len, HN.out]; exact Nat.le_refl _)
          have hlen : (stL T W ms).length = j := by rw [stL_len, HN.out]
          have hb := HC.out.be
          have ho := HC.out.own
          rw [htk] at ho
          rw [hlen] at ho
          refine ⟨B, cb, by rw [hlen]; rfl, Row.of_own ho (by decide), ?_, hb⟩
          rw [hlen]
          exact own_cap ho
end Go.Proofs.Ytejkamgidhpcjaa.PO
