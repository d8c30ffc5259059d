/- The walk of the law NetBack. (printed by wip/gen/netback.py) -/
import Derived.Test.YtdapcahphaldjaaNetT
namespace Go.Proofs.Ytdapcahphaldjaa.Net
open Go.RowKit Go.Proofs.Ytdapcahphaldjaa.Cents
set_option linter.unusedVariables false
set_option linter.unusedSimpArgs false

theorem quiet_trans {a b c : World} (h : Quiet a b) (k : Quiet b c) : Quiet a c := by
  obtain ⟨m, rfl⟩ := h
  obtain ⟨n, rfl⟩ := k
  exact ⟨m + n, by simp [World.drewN, Nat.add_assoc]⟩
/-! ### the plain law -/
def Post.neg (p : Post) : Post := ⟨p.acc, p.ct, -p.amt⟩
theorem layP_neg (ct acc amt amt' : Int) (h : amt' = -amt) : layP ct acc amt' = (layP ct acc amt).map Post.neg := by
  subst h
  unfold layP
  by_cases c : amt = 0
  · rw [if_pos c, if_pos (by omega)]; rfl
  · rw [if_neg c, if_neg (by omega)]; rfl
theorem chg_back (ct fb fr tb tr : Int) : chg ct tb tr fb fr = (chg ct fb fr tb tr).map Post.neg := by
  unfold chg
  simp only [List.map_append]
  rw [layP_neg ct 0 (tb - fb) (fb - tb) (by omega), layP_neg ct 1 (liab fb fr - liab tb tr) (liab tb tr - liab fb fr) (by omega), layP_neg ct 2 (asset tb tr - asset fb fr) (asset fb fr - asset tb tr) (by omega), layP_neg ct 3 (fr - tr) (tr - fr) (by omega)]
theorem chgE_zero {ct b r p q : Int} (h : chgE ct b r p q = 0) : 0 ≤ ct ∧ ct < 40 ∧ 0 ≤ b ∧ 0 ≤ r ∧ I64 (b + p) ∧ I64 (r + q) ∧ 0 ≤ b + p ∧ 0 ≤ r + q := by
  unfold chgE at h
  split at h
  · omega
  · rename_i c1
    split at h
    · omega
    · rename_i c2
      split at h
      · omega
      · rename_i c3
        exact ⟨by omega, by omega, by omega, by omega, Classical.byContradiction fun h => c2 (.inl h), Classical.byContradiction fun h => c2 (.inr h), by omega, by omega⟩
theorem chgE_of {ct b r p q : Int} (h : 0 ≤ ct ∧ ct < 40 ∧ 0 ≤ b ∧ 0 ≤ r ∧ I64 (b + p) ∧ I64 (r + q) ∧ 0 ≤ b + p ∧ 0 ≤ r + q) : chgE ct b r p q = 0 := by
  obtain ⟨h1, h2, h3, h4, h5, h6, h7, h8⟩ := h
  unfold chgE
  rw [if_neg (by omega), if_neg (by rintro (h | h); exact h h5; exact h h6), if_neg (by omega)]
theorem chgE_back {ct b r p q : Int} (h : chgE ct b r p q = 0) (i1 : I64 b) (i2 : I64 r) : chgE ct (b + p) (r + q) (-p) (-q) = 0 := by
  obtain ⟨h1, h2, h3, h4, h5, h6, h7, h8⟩ := chgE_zero h
  refine chgE_of ⟨h1, h2, h7, h8, ?_, ?_, by omega, by omega⟩
  · rw [show b + p + -p = b by omega]; exact i1
  · rw [show r + q + -q = r by omega]; exact i2
theorem chgP_back {ct b r p q : Int} (h : chgE ct b r p q = 0) (i1 : I64 b) (i2 : I64 r) : chgP ct (b + p) (r + q) (-p) (-q) = (chgP ct b r p q).map Post.neg := by
  unfold chgP
  rw [if_pos h, if_pos (chgE_back h i1 i2), chg_back, show b + p + -p = b by omega, show r + q + -q = r by omega]
theorem layP_mem {ct acc amt : Int} {x : Post} (h : x ∈ layP ct acc amt) : x = ⟨acc, ct, amt⟩ ∧ amt ≠ 0 := by
  unfold layP at h
  split at h
  · simp at h
  · simp at h; exact ⟨h, by assumption⟩
theorem chg_mem {ct fb fr tb tr : Int} {x : Post} (h : x ∈ chg ct fb fr tb tr) : x.ct = ct ∧ x.amt ≠ 0 ∧
    ((x.acc = 0 ∧ x.amt = tb - fb) ∨ (x.acc = 1 ∧ x.amt = liab fb fr - liab tb tr) ∨ (x.acc = 2 ∧ x.amt = asset tb tr - asset fb fr) ∨ (x.acc = 3 ∧ x.amt = fr - tr)) := by
  unfold chg at h
  simp only [List.mem_append] at h
  rcases h with ((h | h) | h) | h
  all_goals
    obtain ⟨rfl, hne⟩ := layP_mem h
    refine ⟨rfl, hne, ?_⟩
    simp
theorem liab_in {b r : Int} (hb : 0 ≤ b) (hr : 0 ≤ r) : 0 ≤ liab b r ∧ liab b r ≤ b := by unfold liab; split <;> omega
theorem asset_in {b r : Int} (hb : 0 ≤ b) (hr : 0 ≤ r) : 0 ≤ asset b r ∧ asset b r ≤ r := by unfold asset; split <;> omega
theorem chgP_mem {ct b r p q : Int} (i1 : I64 b) (i2 : I64 r) {x : Post} (h : x ∈ chgP ct b r p q) : x.ct = ct ∧ x.amt ≠ 0 ∧ 0 ≤ x.acc ∧ x.acc ≤ 3 ∧ -9223372036854775808 < x.amt ∧ x.amt < 9223372036854775808 := by
  unfold chgP at h
  split at h
  · rename_i c
    obtain ⟨h1, h2, h3, h4, h5, h6, h7, h8⟩ := chgE_zero c
    obtain ⟨a1, a2, a3⟩ := chg_mem h
    have k1 := liab_in h3 h4
    have k2 := asset_in h3 h4
    have k3 := liab_in h7 h8
    have k4 := asset_in h7 h8
    have := i1.2; have := i2.2; have := h5.2; have := h6.2
    refine ⟨a1, a2, ?_, ?_, ?_, ?_⟩ <;> rcases a3 with ⟨e1, e2⟩ | ⟨e1, e2⟩ | ⟨e1, e2⟩ | ⟨e1, e2⟩ <;> omega
  · simp at h
theorem chgP_none {ct b r p q : Int} (h : ¬ chgE ct b r p q = 0) : chgP ct b r p q = [] := by unfold chgP; rw [if_neg h]

set_option maxHeartbeats 2000000 in
set_option maxRecDepth 100000 in
theorem back_walk (b r m : Int) (w : World) (i1 : I64 b) (i2 : I64 r) (i3 : I64 m) :
    Calls Try.prog 7 #[.int .i64 b, .int .i64 r, .int .i64 m] w fun e w' => e = .returned (.bool true) ∧ Below w.heap.size w w' := by
  by_cases hm : m = -9223372036854775808
  · subst hm
    clear i1 i2 i3
    go_enter Try.func7, Try.ntmps7
    go_wp2_with fail
    refine (awake17 _).mono ?_
    rintro e w1 ⟨rfl, hb1⟩
    go_wp2_with fail
    go_ret
    exact ⟨rfl, hb1⟩
  · have I1 := Lib.hid i1
    have I2 := Lib.hid i2
    have I3 := Lib.hid i3
    have m1 : -9223372036854775808 < m := by have := i3.1; omega
    have m2 : m < 9223372036854775808 := i3.2
    have NM := Lib.hid (show I64 (-m) from ⟨by omega, by omega⟩)
    have hmb : (m == -9223372036854775808) = false := by simpa using hm
    obtain ⟨ps, hp⟩ : ∃ x, chgP 0 b r m 0 = x := ⟨_, rfl⟩
    obtain ⟨n, hn⟩ : ∃ x, ps.length = x := ⟨_, rfl⟩
    obtain ⟨er, he⟩ : ∃ x, chgE 0 b r m 0 = x := ⟨_, rfl⟩
    obtain ⟨qs, hq⟩ : ∃ x, chgP 0 b r 0 m = x := ⟨_, rfl⟩
    obtain ⟨k, hk⟩ : ∃ x, qs.length = x := ⟨_, rfl⟩
    obtain ⟨er2, he2⟩ : ∃ x, chgE 0 b r 0 m = x := ⟨_, rfl⟩
    have ln : n ≤ 4 := by rw [← hn, ← hp]; exact chgP_len _ _ _ _ _
    have lk : k ≤ 4 := by rw [← hk, ← hq]; exact chgP_len _ _ _ _ _
    have PM := Lib.hid (show ∀ x ∈ ps, x.ct = 0 ∧ x.amt ≠ 0 ∧ 0 ≤ x.acc ∧ x.acc ≤ 3 ∧ -9223372036854775808 < x.amt ∧ x.amt < 9223372036854775808 from fun x hx => chgP_mem i1 i2 (by rw [hp]; exact hx))
    have QM := Lib.hid (show ∀ x ∈ qs, x.ct = 0 ∧ x.amt ≠ 0 ∧ 0 ≤ x.acc ∧ x.acc ≤ 3 ∧ -9223372036854775808 < x.amt ∧ x.amt < 9223372036854775808 from fun x hx => chgP_mem i1 i2 (by rw [hq]; exact hx))
    have HP := Lib.hid hp
    have HN := Lib.hid hn
    have HE := Lib.hid he
    have HQ := Lib.hid hq
    have HK := Lib.hid hk
    have HE2 := Lib.hid he2
    clear i1 i2 i3 hp hn he hq hk he2 hm
    go_enter Try.func7, Try.ntmps7
    go_wp2_with fail
    refine (awake17 _).mono ?_
    rintro e w1 ⟨rfl, hb1⟩
    have B1 := Lib.hid hb1
    clear hb1
    go_wp2_with fail
    by_cases ho : er = 0
    · subst ho
      have HB := Lib.hid (chgE_back HE.out I1.out I2.out)
      have HBP := Lib.hid ((chgP_back HE.out I1.out I2.out).trans (congrArg _ HP.out))
      obtain ⟨_, _, _, _, u1, u2, u3, u4⟩ := chgE_zero HE.out
      obtain ⟨v1, v2⟩ := u1
      have U1 := Lib.hid (And.intro v1 v2 : I64 (b + m))
      clear u2 u3 u4
      refine (bill_is 0 b r m _ ps n 0 I1.out I2.out I3.out HP.out HE.out HN.out).mono ?_
      rintro e w2 ⟨A2, c2, rfl, r2, hb2⟩
      have R2 := Lib.hid r2
      have B2 := Lib.hid (B1.out.trans (hb2.mono B1.out.size))
      clear r2 hb2
      go_wp2_with fail
      rw [show r + 0 = r from Int.add_zero r, show -(0 : Int) = 0 from rfl] at HB
      rw [show r + 0 = r from Int.add_zero r, show -(0 : Int) = 0 from rfl] at HBP
      refine (bill_is 0 (b + m) r (-m) _ (ps.map Post.neg) n 0 U1.out I2.out NM.out HBP.out HB.out (by rw [List.length_map]; exact HN.out)).mono ?_
      rintro e w3 ⟨A3, c3, rfl, r3, hb3⟩
      have R23 := Lib.hid (R2.out.below hb3)
      have R3 := Lib.hid r3
      have B3 := Lib.hid (B2.out.trans (hb3.mono B2.out.size))
      clear r3 hb3 R2
      have HNN := Lib.hid (show n ≤ 4 by omega)
      go_wp2_with fail
      go_loopw [51] (fun i wr => ∃ (j : Nat), i = .int .i64 (j : Int) ∧ j ≤ n ∧ Quiet w3 wr) (fun i _ => n - (intOf i).toNat)
      case atStart => exact ⟨0, rfl, Nat.zero_le _, Quiet.refl _⟩
      case round =>
        obtain ⟨j, rfl, hj, hq⟩ := hrel
        by_cases hlt : j < n
        · obtain ⟨ax, rfl, _, x0, x1, x2⟩ := Row.post R23.out (j := j) (by rw [HN.out]; exact hlt)
          obtain ⟨ay, rfl, _, y0, y1, y2⟩ := Row.post R3.out (j := j) (by rw [List.length_map, HN.out]; exact hlt)
          obtain ⟨px, hpx⟩ : ∃ p, p = ps[j]'(by rw [HN.out]; exact hlt) := ⟨_, rfl⟩
          have hmem : px ∈ ps := by rw [hpx]; exact List.getElem_mem _
          rw [← hpx] at x0 x1 x2
          simp only [List.getElem_map, ← hpx, Post.neg] at y0 y1 y2
          obtain ⟨_, _, _, _, g1, g2⟩ := PM.out _ hmem
          obtain ⟨d, rfl⟩ := hq
          rcases px with ⟨p0, p1, p2⟩
          dsimp only at x0 x1 x2 y0 y1 y2 g1 g2
          clear hpx hmem
          go_wp2_with fail
          have wn : IntKind.i64.wrap (-p2) = -p2 := IntWalk.i64_in _ (by omega)
          go_quiet (fail)
          clear wn
          go_wp2_with fail
          go_roundw
          case rel => exact ⟨j + 1, by go_num, by omega, ⟨d + nq, rfl⟩⟩
          case measure => simp only [intOf]; omega
        · obtain rfl : j = n := by omega
          obtain ⟨d51, rfl⟩ := hq
          go_wp2_with fail
          have B3d := Lib.hid (show Below w.heap.size w (w3.drewN d51) from ⟨B3.out.os, B3.out.tape, B3.out.output, B3.out.size, B3.out.block⟩)
          by_cases ho : er2 = 0
          · subst ho
            have HB2 := Lib.hid (chgE_back HE2.out I1.out I2.out)
            have HBP := Lib.hid ((chgP_back HE2.out I1.out I2.out).trans (congrArg _ HQ.out))
            obtain ⟨_, _, _, _, u1, u2, u3, u4⟩ := chgE_zero HE2.out
            obtain ⟨v1, v2⟩ := u2
            have U2 := Lib.hid (And.intro v1 v2 : I64 (r + m))
            clear u1 u3 u4
            go_wp2_with fail
            refine (earn_is 0 b r m _ qs k 0 I1.out I2.out I3.out HQ.out HE2.out HK.out).mono ?_
            rintro e w4 ⟨A4, c4, rfl, r4, hb4⟩
            have R4 := Lib.hid r4
            have B4 := Lib.hid (B3d.out.trans (hb4.mono B3d.out.size))
            clear r4 hb4
            go_wp2_with fail
            rw [show b + 0 = b from Int.add_zero b, show -(0 : Int) = 0 from rfl] at HB2
            rw [show b + 0 = b from Int.add_zero b, show -(0 : Int) = 0 from rfl] at HBP
            refine (earn_is 0 b (r + m) (-m) _ (qs.map Post.neg) k 0 I1.out U2.out NM.out HBP.out HB2.out (by rw [List.length_map]; exact HK.out)).mono ?_
            rintro e w5 ⟨A5, c5, rfl, r5, hb5⟩
            have R45 := Lib.hid (R4.out.below hb5)
            have R5 := Lib.hid r5
            have B5 := Lib.hid (B4.out.trans (hb5.mono B4.out.size))
            clear r5 hb5 R4
            have HNN := Lib.hid (show k ≤ 4 by omega)
            go_wp2_with fail
            go_loopw [113] (fun i wr => ∃ (j : Nat), i = .int .i64 (j : Int) ∧ j ≤ k ∧ Quiet w5 wr) (fun i _ => k - (intOf i).toNat)
            case atStart => exact ⟨0, rfl, Nat.zero_le _, Quiet.refl _⟩
            case round =>
              obtain ⟨j, rfl, hj, hq⟩ := hrel
              by_cases hlt : j < k
              · obtain ⟨ax, rfl, _, x0, x1, x2⟩ := Row.post R45.out (j := j) (by rw [HK.out]; exact hlt)
                obtain ⟨ay, rfl, _, y0, y1, y2⟩ := Row.post R5.out (j := j) (by rw [List.length_map, HK.out]; exact hlt)
                obtain ⟨px, hpx⟩ : ∃ p, p = qs[j]'(by rw [HK.out]; exact hlt) := ⟨_, rfl⟩
                have hmem : px ∈ qs := by rw [hpx]; exact List.getElem_mem _
                rw [← hpx] at x0 x1 x2
                simp only [List.getElem_map, ← hpx, Post.neg] at y0 y1 y2
                obtain ⟨_, _, _, _, g1, g2⟩ := QM.out _ hmem
                obtain ⟨d, rfl⟩ := hq
                rcases px with ⟨p0, p1, p2⟩
                dsimp only at x0 x1 x2 y0 y1 y2 g1 g2
                clear hpx hmem
                go_wp2_with fail
                have wn : IntKind.i64.wrap (-p2) = -p2 := IntWalk.i64_in _ (by omega)
                go_quiet (fail)
                clear wn
                go_wp2_with fail
                go_roundw
                case rel => exact ⟨j + 1, by go_num, by omega, ⟨d + nq, rfl⟩⟩
                case measure => simp only [intOf]; omega
              · obtain rfl : j = k := by omega
                obtain ⟨d113, rfl⟩ := hq
                go_wp2_with fail
                go_ret
                exact ⟨rfl, ⟨B5.out.os, B5.out.tape, B5.out.output, B5.out.size, B5.out.block⟩⟩
          · have hno : (er2 == 0) = false := by simpa using ho
            obtain rfl : qs = [] := by rw [← HQ.out]; exact chgP_none (by rw [HE2.out]; exact ho)
            obtain rfl : k = 0 := by rw [← HK.out]; rfl
            clear ho
            go_wp2_with fail
            refine (earn_is 0 b r m _ [] 0 er2 I1.out I2.out I3.out HQ.out HE2.out rfl).mono ?_
            rintro e w4 ⟨A4, c4, rfl, r4, hb4⟩
            have B4 := Lib.hid (B3d.out.trans (hb4.mono B3d.out.size))
            clear r4 hb4
            go_wp2_with fail
            go_ret
            exact ⟨rfl, B4.out⟩
    · have hno : (er == 0) = false := by simpa using ho
      obtain rfl : ps = [] := by rw [← HP.out]; exact chgP_none (by rw [HE.out]; exact ho)
      obtain rfl : n = 0 := by rw [← HN.out]; rfl
      clear ho
      refine (bill_is 0 b r m _ [] 0 er I1.out I2.out I3.out HP.out HE.out rfl).mono ?_
      rintro e w2 ⟨A2, c2, rfl, r2, hb2⟩
      have B2 := Lib.hid (B1.out.trans (hb2.mono B1.out.size))
      clear r2 hb2
      go_wp2_with fail
      by_cases ho : er2 = 0
      · subst ho
        have HB2 := Lib.hid (chgE_back HE2.out I1.out I2.out)
        have HBP := Lib.hid ((chgP_back HE2.out I1.out I2.out).trans (congrArg _ HQ.out))
        obtain ⟨_, _, _, _, u1, u2, u3, u4⟩ := chgE_zero HE2.out
        obtain ⟨v1, v2⟩ := u2
        have U2 := Lib.hid (And.intro v1 v2 : I64 (r + m))
        clear u1 u3 u4
        go_wp2_with fail
        refine (earn_is 0 b r m _ qs k 0 I1.out I2.out I3.out HQ.out HE2.out HK.out).mono ?_
        rintro e w4 ⟨A4, c4, rfl, r4, hb4⟩
        have R4 := Lib.hid r4
        have B4 := Lib.hid (B2.out.trans (hb4.mono B2.out.size))
        clear r4 hb4
        go_wp2_with fail
        rw [show b + 0 = b from Int.add_zero b, show -(0 : Int) = 0 from rfl] at HB2
        rw [show b + 0 = b from Int.add_zero b, show -(0 : Int) = 0 from rfl] at HBP
        refine (earn_is 0 b (r + m) (-m) _ (qs.map Post.neg) k 0 I1.out U2.out NM.out HBP.out HB2.out (by rw [List.length_map]; exact HK.out)).mono ?_
        rintro e w5 ⟨A5, c5, rfl, r5, hb5⟩
        have R45 := Lib.hid (R4.out.below hb5)
        have R5 := Lib.hid r5
        have B5 := Lib.hid (B4.out.trans (hb5.mono B4.out.size))
        clear r5 hb5 R4
        have HNN := Lib.hid (show k ≤ 4 by omega)
        go_wp2_with fail
        go_loopw [113] (fun i wr => ∃ (j : Nat), i = .int .i64 (j : Int) ∧ j ≤ k ∧ Quiet w5 wr) (fun i _ => k - (intOf i).toNat)
        case atStart => exact ⟨0, rfl, Nat.zero_le _, Quiet.refl _⟩
        case round =>
          obtain ⟨j, rfl, hj, hq⟩ := hrel
          by_cases hlt : j < k
          · obtain ⟨ax, rfl, _, x0, x1, x2⟩ := Row.post R45.out (j := j) (by rw [HK.out]; exact hlt)
            obtain ⟨ay, rfl, _, y0, y1, y2⟩ := Row.post R5.out (j := j) (by rw [List.length_map, HK.out]; exact hlt)
            obtain ⟨px, hpx⟩ : ∃ p, p = qs[j]'(by rw [HK.out]; exact hlt) := ⟨_, rfl⟩
            have hmem : px ∈ qs := by rw [hpx]; exact List.getElem_mem _
            rw [← hpx] at x0 x1 x2
            simp only [List.getElem_map, ← hpx, Post.neg] at y0 y1 y2
            obtain ⟨_, _, _, _, g1, g2⟩ := QM.out _ hmem
            obtain ⟨d, rfl⟩ := hq
            rcases px with ⟨p0, p1, p2⟩
            dsimp only at x0 x1 x2 y0 y1 y2 g1 g2
            clear hpx hmem
            go_wp2_with fail
            have wn : IntKind.i64.wrap (-p2) = -p2 := IntWalk.i64_in _ (by omega)
            go_quiet (fail)
            clear wn
            go_wp2_with fail
            go_roundw
            case rel => exact ⟨j + 1, by go_num, by omega, ⟨d + nq, rfl⟩⟩
            case measure => simp only [intOf]; omega
          · obtain rfl : j = k := by omega
            obtain ⟨d113, rfl⟩ := hq
            go_wp2_with fail
            go_ret
            exact ⟨rfl, ⟨B5.out.os, B5.out.tape, B5.out.output, B5.out.size, B5.out.block⟩⟩
      · have hno : (er2 == 0) = false := by simpa using ho
        obtain rfl : qs = [] := by rw [← HQ.out]; exact chgP_none (by rw [HE2.out]; exact ho)
        obtain rfl : k = 0 := by rw [← HK.out]; rfl
        clear ho
        go_wp2_with fail
        refine (earn_is 0 b r m _ [] 0 er2 I1.out I2.out I3.out HQ.out HE2.out rfl).mono ?_
        rintro e w4 ⟨A4, c4, rfl, r4, hb4⟩
        have B4 := Lib.hid (B2.out.trans (hb4.mono B2.out.size))
        clear r4 hb4
        go_wp2_with fail
        go_ret
        exact ⟨rfl, B4.out⟩
end Go.Proofs.Ytdapcahphaldjaa.Net
