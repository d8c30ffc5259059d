/- The walk of the law NetTells. -/
import Derived.Test.YtdapcahphaldjaaNetR
namespace Go.Proofs.Ytdapcahphaldjaa.Net
open Go.RowKit Go.Proofs.Ytdapcahphaldjaa.Cents
set_option linter.unusedVariables false
set_option linter.unusedSimpArgs false

def sdL (b r : Int) : Int := if b < 0 ∨ r < 0 then 0 else liab b r
def sdA (b r : Int) : Int := if b < 0 ∨ r < 0 then 0 else asset b r
def sdE (b r : Int) : Int := if b < 0 ∨ r < 0 then 1 else 0
theorem sides_all (b r : Int) (w : World) (i1 : I64 b) (i2 : I64 r) (x y z : Int) (hx : sdL b r = x) (hy : sdA b r = y) (hz : sdE b r = z) :
    Calls Try.prog 25 #[.int .i64 b, .int .i64 r] w fun e w' => e = .returned (.tuple #[.int .i64 x, .int .i64 y, .int .i64 z]) ∧ w = w' := by
  subst hx hy hz
  unfold sdL sdA sdE
  by_cases h : b < 0 ∨ r < 0
  · rw [if_pos h, if_pos h, if_pos h]; exact sides_bad b r w h
  · rw [if_neg h, if_neg h, if_neg h]; exact sides_any b r w (by omega) (by omega) i1.2 i2.2 _ _ rfl rfl
theorem rsides_all (b r : Int) (w : World) (i1 : I64 b) (i2 : I64 r) (x y z : Int) (hx : sdL b r = x) (hy : sdA b r = y) (hz : sdE b r = z) :
    Calls Try.prog 26 #[.int .i64 b, .int .i64 r] w fun e w' => e = .returned (.tuple #[.int .i64 x, .int .i64 y, .int .i64 z]) ∧ w = w' := by
  subst hx hy hz
  unfold sdL sdA sdE
  by_cases h : b < 0 ∨ r < 0
  · rw [if_pos h, if_pos h, if_pos h]; exact rsides_bad b r w h
  · rw [if_neg h, if_neg h, if_neg h]; exact rsides_any b r w (by omega) (by omega) i1.2 i2.2 _ _ rfl rfl
theorem rchange_is (ct b r p q : Int) (w : World) (ps : List Post) (n : Nat) (er : Int) (i1 : I64 b) (i2 : I64 r) (i3 : I64 p) (i4 : I64 q) (hp : chgP ct b r p q = ps) (he : chgE ct b r p q = er) (hn : ps.length = n) :
    Calls Try.prog 28 #[.int .i64 ct, .int .i64 b, .int .i64 r, .int .i64 p, .int .i64 q] w (RetIs w ps n er) := by
  subst hp he
  exact (rchange_any ct b r p q w i1 i2 i3 i4).mono fun _ _ h => h.is hn
theorem chg_len (ct fb fr tb tr : Int) : (chg ct fb fr tb tr).length ≤ 4 := by
  unfold chg
  simp only [List.length_append]
  have := layP_len ct 0 (tb - fb)
  have := layP_len ct 1 (liab fb fr - liab tb tr)
  have := layP_len ct 2 (asset tb tr - asset fb fr)
  have := layP_len ct 3 (fr - tr)
  omega
theorem chgP_len (ct b r p q : Int) : (chgP ct b r p q).length ≤ 4 := by
  unfold chgP; split
  · exact chg_len _ _ _ _ _
  · simp

set_option maxHeartbeats 2000000 in
set_option maxRecDepth 100000 in
theorem tells_walk (ct b r m : Int) (w : World) (h0 : I64 ct) (i1 : I64 b) (i2 : I64 r) (i3 : I64 m) :
    Calls Try.prog 5 #[.int .i64 ct, .int .i64 b, .int .i64 r, .int .i64 m] w fun e w' => e = .returned (.bool true) ∧ Below w.heap.size w w' := by
  have I1 := Lib.hid i1
  have I2 := Lib.hid i2
  have I3 := Lib.hid i3
  obtain ⟨x, hx⟩ : ∃ x, sdL b r = x := ⟨_, rfl⟩
  obtain ⟨y, hy⟩ : ∃ x, sdA b r = x := ⟨_, rfl⟩
  obtain ⟨z, hz⟩ : ∃ x, sdE b r = x := ⟨_, rfl⟩
  obtain ⟨ps, hp⟩ : ∃ x, chgP ct b r m 0 = x := ⟨_, rfl⟩
  obtain ⟨n, hn⟩ : ∃ x, ps.length = x := ⟨_, rfl⟩
  obtain ⟨er, he⟩ : ∃ x, chgE ct b r m 0 = x := ⟨_, rfl⟩
  obtain ⟨qs, hq⟩ : ∃ x, chgP ct b r 0 m = x := ⟨_, rfl⟩
  obtain ⟨k, hk⟩ : ∃ x, qs.length = x := ⟨_, rfl⟩
  obtain ⟨er2, he2⟩ : ∃ x, chgE ct b r 0 m = x := ⟨_, rfl⟩
  have PN : ps.length ≤ 1000 := by rw [← hp]; exact Nat.le_trans (chgP_len _ _ _ _ _) (by decide)
  have QN : qs.length ≤ 1000 := by rw [← hq]; exact Nat.le_trans (chgP_len _ _ _ _ _) (by decide)
  have HPN := Lib.hid PN
  have HQN := Lib.hid QN
  have HX := Lib.hid hx
  have HY := Lib.hid hy
  have HZ := Lib.hid hz
  have HP := Lib.hid hp
  have HN := Lib.hid hn
  have HE := Lib.hid he
  have HQ := Lib.hid hq
  have HK := Lib.hid hk
  have HE2 := Lib.hid he2
  clear i1 i2 i3 hx hy hz hp hn he hq hk he2 PN QN
  go_enter Try.func5, Try.ntmps5
  go_wp2_with fail
  refine (awake17 _).mono ?_
  rintro e w1 ⟨rfl, hb1⟩
  have B1 := Lib.hid hb1
  clear hb1
  go_wp2_with fail
  refine (sides_all _ _ _ I1.out I2.out x y z HX.out HY.out HZ.out).mono ?_
  rintro e w2 ⟨rfl, rfl⟩
  go_wp2_with fail
  refine (rsides_all _ _ _ I1.out I2.out x y z HX.out HY.out HZ.out).mono ?_
  rintro e w2 ⟨rfl, rfl⟩
  go_wp2_with fail
  refine (bill_is ct b r m _ ps n er I1.out I2.out I3.out HP.out HE.out HN.out).mono ?_
  rintro e w2 ⟨A2, c2, rfl, r2, hb2⟩
  have R2 := Lib.hid r2
  have B2 := Lib.hid (B1.out.trans (hb2.mono B1.out.size))
  clear r2 hb2
  go_wp2_with fail
  refine (rchange_is ct b r m 0 _ ps n er I1.out I2.out I3.out (by decide) HP.out HE.out HN.out).mono ?_
  rintro e w3 ⟨A3, c3, rfl, r3, hb3⟩
  have R23 := Lib.hid (R2.out.below hb3)
  have R3 := Lib.hid r3
  have B3 := Lib.hid (B2.out.trans (hb3.mono B2.out.size))
  clear r3 hb3 R2
  go_wp2_with fail
  refine (earn_is ct b r m _ qs k er2 I1.out I2.out I3.out HQ.out HE2.out HK.out).mono ?_
  rintro e w4 ⟨A4, c4, rfl, r4, hb4⟩
  have R24 := Lib.hid (R23.out.below hb4)
  have R34 := Lib.hid (R3.out.below hb4)
  have R4 := Lib.hid r4
  have B4 := Lib.hid (B3.out.trans (hb4.mono B3.out.size))
  clear r4 hb4 R23 R3
  go_wp2_with fail
  refine (rchange_is ct b r 0 m _ qs k er2 I1.out I2.out (by decide) I3.out HQ.out HE2.out HK.out).mono ?_
  rintro e w5 ⟨A5, c5, rfl, r5, hb5⟩
  have R25 := Lib.hid (R24.out.below hb5)
  have R35 := Lib.hid (R34.out.below hb5)
  have R45 := Lib.hid (R4.out.below hb5)
  have R5 := Lib.hid r5
  have B5 := Lib.hid (B4.out.trans (hb5.mono B4.out.size))
  clear r5 hb5 R24 R34 R4
  go_wp2_with fail
  rw [← HN.out]
  refine (same_any A2 A3 c2 c3 ps ps _ (R25.out.weak (Nat.zero_le _)) (R35.out.weak (Nat.zero_le _)) HPN.out HPN.out true (by simp)).mono ?_
  rintro e w6 ⟨rfl, hq6⟩
  have R46 := Lib.hid (R45.out.below (Quiet.below hq6))
  have R56 := Lib.hid (R5.out.below (Quiet.below hq6))
  have B6 := Lib.hid (B5.out.trans ((Quiet.below hq6).mono B5.out.size))
  clear hq6
  go_wp2_with fail
  rw [← HK.out]
  refine (same_any A4 A5 c4 c5 qs qs _ (R46.out.weak (Nat.zero_le _)) (R56.out.weak (Nat.zero_le _)) HQN.out HQN.out true (by simp)).mono ?_
  rintro e w7 ⟨rfl, hq7⟩
  have B7 := Lib.hid (B6.out.trans ((Quiet.below hq7).mono B6.out.size))
  clear hq7
  go_wp2_with fail
  go_ret
  exact ⟨rfl, B7.out⟩
end Go.Proofs.Ytdapcahphaldjaa.Net
