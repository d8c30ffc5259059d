/- The walk of the law BookOrder. -/
import Derived.Test.YtleocecfcamjnaaBookP
import Derived.Deep.DeepCutAuto
import Derived.Deep.RegionLaw
namespace Go.Proofs.Ytleocecfcamjnaa.BK
open Go.RowKit Go.Proofs.Ytleocecfcamjnaa.Cents
set_option linter.unusedVariables false
set_option linter.unusedSimpArgs false

theorem box_a (w : World) (P Q : Array Value) (t : TypeId) : Blk ((w.alloc (.cells P t)).alloc (.cells Q t)).drew w.heap.size t P := ((Blk.new w t P).alloc _).drew
theorem box_b (w : World) (P Q : Array Value) (t : TypeId) : Blk ((w.alloc (.cells P t)).alloc (.cells Q t)).drew (w.heap.size + 1) t Q := by
  have := Blk.new (w.alloc (.cells P t)) t Q
  simpa using this.drew
theorem box_be (w : World) (P Q : Array Value) (t : TypeId) : Below w.heap.size w ((w.alloc (.cells P t)).alloc (.cells Q t)).drew := Below.drew ((alloc1 w _).alloc (by simp) _)
set_option maxRecDepth 100000 in
theorem order_large (A B : Option Addr) (n m c d : Nat) (i dd : Int) (w : World) (h : largeI n m = true ∨ 100 < m) :
    Calls Try.prog 5 #[.slice A n c, .slice B m d, .int .i64 i, .int .i64 dd] w fun e w' => e = .returned (.bool true) ∧ Below w.heap.size w w' := by
  cases hl : largeI n m with
  | true =>
    have HL := Lib.hid (fun w => large_any A B n m c d w true hl)
    clear h hl
    go_enter Try.func5, Try.ntmps5
    go_wp2_with fail
    refine (awake_any _).mono ?_
    rintro e w1 ⟨rfl, hb⟩
    have HB := Lib.hid hb
    clear hb
    go_wp2_with fail
    refine (HL.out _).mono ?_
    rintro e w2 ⟨rfl, rfl⟩
    go_wp2_with fail
    go_ret
    exact ⟨rfl, HB.out⟩
  | false =>
    have HL := Lib.hid (fun w => large_any A B n m c d w false hl)
    have hk : decide ((100 : Int) < (m : Int)) = true := by
      rcases h with h | h
      · rw [hl] at h; cases h
      · simp; omega
    clear h hl
    go_enter Try.func5, Try.ntmps5
    go_wp2_with fail
    refine (awake_any _).mono ?_
    rintro e w1 ⟨rfl, hb⟩
    have HB := Lib.hid hb
    clear hb
    go_wp2_with fail
    refine (HL.out _).mono ?_
    rintro e w2 ⟨rfl, rfl⟩
    go_wp2_with fail
    go_ret
    exact ⟨rfl, HB.out⟩
set_option maxRecDepth 100000 in
theorem order_bad (A B : Option Addr) (its : List It) (m c d : Nat) (i dd : Int) (w : World) (hr : Row w 0 A (icells its)) (h : largeI its.length m = false) (h100 : ¬ 100 < m) (hE : newE its ≠ 0) :
    Calls Try.prog 5 #[.slice A its.length c, .slice B m d, .int .i64 i, .int .i64 dd] w fun e w' => e = .returned (.bool true) ∧ Below w.heap.size w w' := by
  have HL := Lib.hid (fun w => large_any A B its.length m c d w false h)
  have hlen : its.length ≤ 1000000 := by unfold largeI at h; simp at h; omega
  have HN := Lib.hid (fun w1 (h : Row w1 0 A (icells its)) => new_bad A its c w1 h hlen _ rfl hE)
  have HR := Lib.hid hr
  have hk : decide ((100 : Int) < (m : Int)) = false := by simp; omega
  generalize newE its = E at *
  generalize its.length = n at *
  clear h hE hr
  go_enter Try.func5, Try.ntmps5
  go_wp2_with fail
  refine (awake_any _).mono ?_
  rintro e w1 ⟨rfl, hb⟩
  have HB := Lib.hid hb
  clear hb
  go_wp2_with fail
  refine (HL.out _).mono ?_
  rintro e w2 ⟨rfl, rfl⟩
  go_wp2_with fail
  refine (HN.out _ (HR.out.below HB.out)).mono ?_
  rintro e w3 ⟨rfl, hb⟩
  have HB := Lib.hid (below_in HB.out hb)
  clear hb
  go_wp2_with fail
  refine (HN.out _ (HR.out.below HB.out)).mono ?_
  rintro e w4 ⟨rfl, hb⟩
  have HB := Lib.hid (below_in HB.out hb)
  clear hb
  go_wp2_with fail
  go_ret
  exact ⟨rfl, HB.out⟩
set_option maxHeartbeats 4000000 in
set_option maxRecDepth 100000 in
theorem order_ok (A B : Option Addr) (its : List It) (l : List Pz) (c d : Nat) (i dd : Int) (w : World) (hr : Row w 0 A (icells its)) (hI : ∀ x ∈ its, ItI x) (hrl : Row w 0 B (zcells l)) (hlI : ∀ p ∈ l, p.I)
    (h : largeI its.length l.length = false) (h100 : ¬ 100 < l.length) (hE : newE its = 0) :
    Calls Try.prog 5 #[.slice A its.length c, .slice B l.length d, .int .i64 i, .int .i64 dd] w fun e w' => e = .returned (.bool true) ∧ Below w.heap.size w w' := by
  have HL := Lib.hid (fun w => large_any A B its.length l.length c d w false h)
  have HN := Lib.hid (fun w1 (h : Row w1 0 A (icells its)) => new_ok A its c w1 h hE)
  have HSAME := Lib.hid (fun (ha : Apart l) => same_told hI hE (fun p hp => (hlI p hp).2.2) ha (by omega) i dd)
  have HOK := Lib.hid (fun k => sets_BkOk (new_BkOk hE hI) (l.take k) (fun p hp => (hlI p (List.mem_of_mem_take hp)).2.2))
  have HOK2 := Lib.hid (fun k => sets_BkOk (new_BkOk hE hI) (l.reverse.take k) (fun p hp => (hlI p (List.mem_reverse.1 (List.mem_of_mem_take hp))).2.2))
  have HR := Lib.hid hr
  have HRL := Lib.hid hrl
  have HLI := Lib.hid hlI
  obtain ⟨n, hn⟩ : ∃ n, its.length = n := ⟨_, rfl⟩
  obtain ⟨m, hm⟩ : ∃ m, l.length = m := ⟨_, rfl⟩
  have HNN := Lib.hid hn
  have HMM := Lib.hid hm
  rw [hn, hm] at HL
  rw [hn] at HN
  rw [hm] at h100
  rw [hn, hm]
  have hk2 : decide ((100 : Int) < (m : Int)) = false := by simp; omega
  clear h hr hI hrl hlI hE hn hm
  go_enter Try.func5, Try.ntmps5
  go_wp2_with fail
  refine (awake_any _).mono ?_
  rintro e w1 ⟨rfl, hb⟩
  have HB := Lib.hid hb
  clear hb
  go_wp2_with fail
  refine (HL.out _).mono ?_
  rintro e w2 ⟨rfl, rfl⟩
  go_wp2_with fail
  refine (HN.out _ (HR.out.below HB.out)).mono ?_
  rintro e w2 ⟨S, b, rfl, hbk, hb, hS⟩
  have HB2 := Lib.hid hb
  have HBK := Lib.hid hbk
  have HS := Lib.hid hS
  clear hb hbk hS
  go_wp2_with fail
  refine (HN.out _ ((HR.out.below HB.out).below HB2.out)).mono ?_
  rintro e w3 ⟨T, r, rfl, hrb, hb, hT⟩
  have htwo : TwoP (fun _ => False) w1 b r its (rows0 its) (rows0 its) w3 := by
    have hsl : ∀ k, S k → k < w2.heap.size := by obtain ⟨_, _, _, _, z⟩ := HBK.out; exact z.lt
    have htl : ∀ k, T k → k < w3.heap.size := by obtain ⟨_, _, _, _, z⟩ := hrb; exact z.lt
    exact ⟨⟨S, T, HBK.out.later hb, hrb, fun k hk => ⟨HS.out k hk, Nat.lt_of_lt_of_le (hsl k hk) hb.size, id⟩, fun k hk => ⟨Nat.le_trans HB2.out.size (hT k hk), htl k hk, id⟩, fun k h1 h2 => by have := hsl k h1; have := hT k h2; omega⟩, below_in HB2.out hb, fun _ h => h.elim⟩
  have HTW := Lib.hid htwo
  clear htwo hrb hb hT HBK HS HB2 HN HL
  have HTM := Lib.hid (HTW.out.more (alloc1 w3 (.map #[] 0)) (fun k => k = w3.heap.size) (fun k hk => by subst hk; simp))
  have HSM := Lib.hid (seen_made w3)
  have hq0 : w1.heap.size ≤ w3.heap.size := HTW.out.be.size
  have hmk : (Instr.makeMap 49 none).run Try.prog w3 = .ok (.map (some w3.heap.size)) (w3.alloc (.map #[] 0)) := run_makeMap _ _
  go_wp2_with fail
  obtain ⟨M, hM⟩ : ∃ M, w3.heap.size = M := ⟨_, rfl⟩
  obtain ⟨wm, hwm⟩ : ∃ wm, w3.alloc (.map #[] 0) = wm := ⟨_, rfl⟩
  rw [hwm] at HTM HSM
  rw [hM] at HTM HSM hq0
  try rw [hwm]
  try rw [hM]
  clear hM hwm HTW
  go_loopw [58] (fun v wr => ∃ (k : Nat), v = .int .i64 (k : Int) ∧ k ≤ m ∧ TwoP (fun k => k = M) w1 b r its (rows0 its) (rows0 its) wr ∧ SeenW M (l.take k) wr ∧ Apart (l.take k)) (fun v _ => m - (intOf v).toNat)
  case atStart => exact ⟨0, rfl, by omega, HTM.out, HSM.out, by simp [Apart]⟩
  case round =>
    clear HTM HSM
    obtain ⟨k, rfl, hk, ht, hsn, hap⟩ := hrel
    have HT := Lib.hid ht
    have HSN := Lib.hid hsn
    have HAP := Lib.hid hap
    clear ht hsn hap
    have g0 : (0 : Int) ≤ (k : Int) := Int.natCast_nonneg _
    by_cases hkm : k < m
    · have g1 : (k : Int) < (m : Int) := by omega
      have hkl : k < l.length := by rw [HMM.out]; exact hkm
      obtain ⟨ad, rfl, c0, c1, c2⟩ := z_cells ((HRL.out.below HB.out).below HT.out.be) (j := k) hkl
      have hpi := HLI.out _ (pzAt_mem (xs := l) (j := k) hkl)
      have htk : l.take (k + 1) = l.take k ++ [pzAt l k] := by
        rw [List.take_succ_eq_append_getElem hkl]; simp [pzAt, List.getD_eq_getElem?_getD, hkl]
      obtain ⟨p, hp⟩ : ∃ p, pzAt l k = p := ⟨_, rfl⟩
      rw [hp] at c0 c1 c2 hpi htk
      obtain ⟨p1, p2, p3⟩ := p
      dsimp only at c0 c1 c2
      have hbz := alloc1 wr (.cells #[.int .i64 p1, .int .i64 p2, .int .i64 p3] 35)
      obtain ⟨x, hlook, hxs⟩ := seen_look (HSN.out.later hbz) hpi.1 hpi.2.1
      obtain ⟨wu, hput, hsn2, hgr⟩ := seen_put (c := p3) (HSN.out.later hbz) (by rw [List.length_take]; omega) hpi.1 hpi.2.1 (fun p hp => HLI.out p (List.mem_of_mem_take hp))
      have HT2 := Lib.hid (HT.out.later hbz)
      have HXS := Lib.hid hxs
      have HTK := Lib.hid htk
      have HSN2 := Lib.hid hsn2
      have HT3 := Lib.hid (HT2.out.grown hgr rfl hq0)
      have hbx := Blk.new wr 35 #[.int .i64 p1, .int .i64 p2, .int .i64 p3]
      clear hxs htk hsn2 hgr hp hpi hkl hbz hbx
      cases x
      · go_wp2_with fail
        go_roundw
        case rel => exact ⟨k + 1, by go_num, by omega, HT3.out, by rw [HTK.out]; exact HSN2.out, by rw [HTK.out]; exact apart_snoc HAP.out (HXS.out rfl)⟩
        case measure => simp only [intOf]; omega
      · go_wp2_with fail
        go_ret
        exact ⟨rfl, HB.out.trans (HT2.out.be.mono HB.out.size)⟩
    · obtain rfl : k = m := by omega
      rw [List.take_of_length_le (by rw [HMM.out]; exact Nat.le_refl _)] at HAP
      have HPE := Lib.hid (HSAME.out HAP.out)
      have HT0 := Lib.hid HT.out.drop
      clear HT HSN HAP HSAME
      obtain ⟨wo, hwo⟩ : ∃ wo : World, wo = wr := ⟨_, rfl⟩
      rw [← hwo] at HT0 ⊢
      clear hwo
      go_wp2_with fail
      go_loopw [78] (fun v wr => ∃ (j : Nat), v = .int .i64 (j : Int) ∧ j ≤ k ∧ TwoP (fun _ => False) w1 b r its (sets its (rows0 its) (l.take j)) (sets its (rows0 its) (l.reverse.take j)) wr) (fun v _ => k - (intOf v).toNat)
      case atStart => exact ⟨0, rfl, by omega, HT0.out⟩
      case round =>
        clear HT0
        obtain ⟨j, rfl, hj, ht⟩ := hrel
        have HT := Lib.hid ht
        clear ht
        have g2 : (0 : Int) ≤ (j : Int) := Int.natCast_nonneg _
        by_cases hjk : j < k
        · have g3 : (j : Int) < (k : Int) := by omega
          have hjl : j < l.length := by rw [HMM.out]; exact hjk
          obtain ⟨ad, rfl, c0, c1, c2⟩ := z_cells ((HRL.out.below HB.out).below HT.out.be) (j := j) hjl
          obtain ⟨i2, hi2⟩ : ∃ i2, k - 1 - j = i2 := ⟨_, rfl⟩
          have hi2k : i2 < k := by omega
          obtain ⟨ad2, hae, d0, d1, d2⟩ := z_cells ((HRL.out.below HB.out).below HT.out.be) (j := i2) (by rw [HMM.out]; exact hi2k)
          cases hae
          have hpi := HLI.out _ (pzAt_mem (xs := l) (j := j) hjl)
          have hqi := HLI.out _ (pzAt_mem (xs := l) (j := i2) (by rw [HMM.out]; exact hi2k))
          have hst := sets_take (its := its) (R := rows0 its) (l := l) (k := j) hjl
          have hst2 := sets_take (its := its) (R := rows0 its) (l := l.reverse) (k := j) (by rw [List.length_reverse]; exact hjl)
          rw [rev_take hjl, HMM.out, hi2] at hst2
          obtain ⟨p, hp⟩ : ∃ p, pzAt l j = p := ⟨_, rfl⟩
          obtain ⟨q, hq⟩ : ∃ q, pzAt l i2 = q := ⟨_, rfl⟩
          rw [hp] at c0 c1 c2 hpi hst
          rw [hq] at d0 d1 d2 hqi hst2
          obtain ⟨p1, p2, p3⟩ := p
          obtain ⟨q1, q2, q3⟩ := q
          dsimp only at c0 c1 c2 d0 d1 d2 hst hst2
          have HST := Lib.hid hst
          have HST2 := Lib.hid hst2
          have HPI := Lib.hid hpi
          have HQI := Lib.hid hqi
          have hok := HOK.out j
          have hok2 := HOK2.out j
          generalize sets its (rows0 its) (l.take j) = R at *
          generalize sets its (rows0 its) (l.reverse.take j) = Q at *
          have HS1 := Lib.hid (fun X w' Q0 (h : TwoP X w1 b r its R Q0 w') => h.set hok p1 p2 p3 _ ⟨rfl, rfl⟩)
          have HS2 := Lib.hid (fun X w' R0 (h : TwoP X w1 r b its Q R0 w') => h.set hok2 q1 q2 q3 _ ⟨rfl, rfl⟩)
          have f0 : (0 : Int) ≤ (i2 : Int) := Int.natCast_nonneg _
          have f1 : (i2 : Int) < (k : Int) := by omega
          have f2 : (k : Int) - 1 - (j : Int) = (i2 : Int) := by omega
          have f3 : IntKind.i64.wrap ((k : Int) - 1) = (k : Int) - 1 := IntWalk.i64_in _ (by omega)
          have f4 : IntKind.i64.wrap (i2 : Int) = (i2 : Int) := IntWalk.i64_in _ (by omega)
          clear hst hst2 hpi hqi hok hok2 hp hq hi2 hjl
          go_upto_region 20 with fail
          go_cut [17, 18] (fun u v wx => ∃ Q1 Q2, u = .pointer (some ⟨Q1, 0, none⟩) ∧ v = .pointer (some ⟨Q2, 0, none⟩) ∧ Blk wx Q1 35 #[.int .i64 p1, .int .i64 p2, .int .i64 p3] ∧ Blk wx Q2 35 #[.int .i64 q1, .int .i64 q2, .int .i64 q3] ∧ Below wr.heap.size wr wx ∧ wr.heap.size ≤ Q1 ∧ wr.heap.size ≤ Q2)
          case first =>
            have ac0 := fun (W : World) (o : Obj) (h : W.cell? (ad.add (j * 3)) = some (.int .i64 p1)) => show (W.alloc o).cell? (ad.add (j * 3)) = some (.int .i64 p1) from cell_below' (alloc1 W o) h
            have ac1 := fun (W : World) (o : Obj) (h : W.cell? ⟨(ad.add (j * 3)).block, (ad.add (j * 3)).off + 1, none⟩ = some (.int .i64 p2)) => show (W.alloc o).cell? ⟨(ad.add (j * 3)).block, (ad.add (j * 3)).off + 1, none⟩ = some (.int .i64 p2) from cell_below' (alloc1 W o) h
            have ac2 := fun (W : World) (o : Obj) (h : W.cell? ⟨(ad.add (j * 3)).block, (ad.add (j * 3)).off + 2, none⟩ = some (.int .i64 p3)) => show (W.alloc o).cell? ⟨(ad.add (j * 3)).block, (ad.add (j * 3)).off + 2, none⟩ = some (.int .i64 p3) from cell_below' (alloc1 W o) h
            have ad0 := fun (W : World) (o : Obj) (h : W.cell? (ad.add (i2 * 3)) = some (.int .i64 q1)) => show (W.alloc o).cell? (ad.add (i2 * 3)) = some (.int .i64 q1) from cell_below' (alloc1 W o) h
            have ad1 := fun (W : World) (o : Obj) (h : W.cell? ⟨(ad.add (i2 * 3)).block, (ad.add (i2 * 3)).off + 1, none⟩ = some (.int .i64 q2)) => show (W.alloc o).cell? ⟨(ad.add (i2 * 3)).block, (ad.add (i2 * 3)).off + 1, none⟩ = some (.int .i64 q2) from cell_below' (alloc1 W o) h
            have ad2 := fun (W : World) (o : Obj) (h : W.cell? ⟨(ad.add (i2 * 3)).block, (ad.add (i2 * 3)).off + 2, none⟩ = some (.int .i64 q3)) => show (W.alloc o).cell? ⟨(ad.add (i2 * 3)).block, (ad.add (i2 * 3)).off + 2, none⟩ = some (.int .i64 q3) from cell_below' (alloc1 W o) h
            go_region_law (fail)
            all_goals
              go_wp2_with fail
              go_meet
              case rel => first
                | exact ⟨_, _, rfl, rfl, box_a wr _ _ _, box_b wr _ _ _, box_be wr _ _ _, Nat.le_refl _, Nat.le_succ _⟩
                | exact ⟨_, _, rfl, rfl, box_b wr _ _ _, box_a wr _ _ _, box_be wr _ _ _, Nat.le_succ _, Nat.le_refl _⟩
          case rest =>
            obtain ⟨Q1, Q2, hu, hv, k1, k2, k3, k4, k5⟩ := hcut
            subst hu
            subst hv
            obtain ⟨wy, hwy⟩ : ∃ wy : World, wy = wc := ⟨_, rfl⟩
            rw [← hwy] at k1 k2 k3 ⊢
            clear hwy
            have HTX := Lib.hid (HT.out.more k3 (fun z => z = Q1 ∨ z = Q2) (fun z hz => hz.elim (fun e => by subst e; exact ⟨k4, k1.lt⟩) (fun e => by subst e; exact ⟨k5, k2.lt⟩)))
            have x0 : wy.cell? ⟨Q1, 0, none⟩ = some (.int .i64 p1) := k1.cell 0
            have x1 : wy.cell? ⟨Q1, 1, none⟩ = some (.int .i64 p2) := k1.cell 1
            have x2 : wy.cell? ⟨Q1, 2, none⟩ = some (.int .i64 p3) := k1.cell 2
            have K2 := Lib.hid k2
            clear k1 k2 k3 c0 c1 c2 d0 d1 d2
            go_wp2_with fail
            refine (HS1.out _ _ _ HTX.out).mono ?_
            rintro e w4 ⟨rfl, ht, hx⟩
            have HT4 := Lib.hid ht.swap
            have K4 := Lib.hid (show Blk w4 Q2 35 #[.int .i64 q1, .int .i64 q2, .int .i64 q3] from (hx Q2 (.inr rfl)).trans K2.out)
            have y0 : w4.cell? ⟨Q2, 0, none⟩ = some (.int .i64 q1) := K4.out.cell 0
            have y1 : w4.cell? ⟨Q2, 1, none⟩ = some (.int .i64 q2) := K4.out.cell 1
            have y2 : w4.cell? ⟨Q2, 2, none⟩ = some (.int .i64 q3) := K4.out.cell 2
            clear ht hx x0 x1 x2
            go_wp2_with fail
            refine (HS2.out _ _ _ HT4.out).mono ?_
            rintro e w5 ⟨rfl, ht, _⟩
            have HT5 := Lib.hid ht.swap.drop
            clear ht
            go_wp2_with fail
            go_roundw
            case rel => exact ⟨j + 1, by go_num, by omega, by rw [HST.out, HST2.out]; exact HT5.out⟩
            case measure => simp only [intOf]; omega
        · obtain rfl : j = k := by omega
          rw [List.take_of_length_le (by rw [HMM.out]; exact Nat.le_refl _), List.take_of_length_le (by rw [List.length_reverse, HMM.out]; exact Nat.le_refl _)] at HT
          have hok := HOK.out j
          have hok2 := HOK2.out j
          rw [List.take_of_length_le (by rw [HMM.out]; exact Nat.le_refl _)] at hok
          rw [List.take_of_length_le (by rw [List.length_reverse, HMM.out]; exact Nat.le_refl _)] at hok2
          have HP1 := Lib.hid (fun w' (h : TwoP (fun _ => False) w1 b r its (sets its (rows0 its) l) (sets its (rows0 its) l.reverse) w') => h.price hok i dd _ _ ⟨rfl, rfl⟩)
          have HP2 := Lib.hid (fun w' (h : TwoP (fun _ => False) w1 r b its (sets its (rows0 its) l.reverse) (sets its (rows0 its) l) w') => h.price hok2 i dd _ _ ⟨HPE.out.symm, rfl⟩)
          generalize priceN its (sets its (rows0 its) l) i dd = z at *
          generalize priceE its.length i dd = y at *
          clear hok hok2
          go_wp2_with fail
          refine (HP1.out _ HT.out).mono ?_
          rintro e w5 ⟨rfl, ht, _⟩
          have HT5 := Lib.hid ht.swap
          clear ht
          go_wp2_with fail
          refine (HP2.out _ HT5.out).mono ?_
          rintro e w6 ⟨rfl, ht, _⟩
          have HBE := Lib.hid (HB.out.trans (ht.be.mono HB.out.size))
          clear ht
          go_wp2_with fail
          go_ret
          exact ⟨rfl, HBE.out⟩
theorem order_walk (A : Option Addr) (its : List It) (c : Nat) (B : Option Addr) (l : List Pz) (d : Nat) (i dd : Int) (w : World) (hI : ∀ x ∈ its, ItI x) (hr : Row w 0 A (icells its)) (hs1 : its.length * 32 ≤ 140737488351232) (hlI : ∀ p ∈ l, p.I) (hrl : Row w 0 B (zcells l)) (hs2 : l.length * 24 ≤ 140737488351232) (hi : I64 i) (hd : I64 dd) :
    Calls Try.prog 5 #[.slice A its.length c, .slice B l.length d, .int .i64 i, .int .i64 dd] w fun e w' => e = .returned (.bool true) ∧ Below w.heap.size w w' := by
  by_cases h : largeI its.length l.length = true ∨ 100 < l.length
  · exact order_large A B its.length l.length c d i dd w h
  · have h1 : largeI its.length l.length = false := by
      cases e : largeI its.length l.length with
      | false => rfl
      | true => exact absurd (.inl e) h
    have h2 : ¬ 100 < l.length := fun e => h (.inr e)
    by_cases hE : newE its = 0
    · exact order_ok A B its l c d i dd w hr hI hrl hlI h1 h2 hE
    · exact order_bad A B its l.length c d i dd w hr h1 h2 hE
end Go.Proofs.Ytleocecfcamjnaa.BK
