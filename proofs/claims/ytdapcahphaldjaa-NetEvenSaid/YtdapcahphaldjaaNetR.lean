/- The walks of net's reference: Sides, with, Change. -/
import Derived.Test.YtdapcahphaldjaaNetW
import Derived.Test.YtdapcahphaldjaaFit
namespace Go.Proofs.Ytdapcahphaldjaa.Net
open Go.RowKit Go.Proofs.Ytdapcahphaldjaa.Cents
set_option linter.unusedVariables false
set_option linter.unusedSimpArgs false

theorem rsides_any (b r : Int) (w : World) (hb : 0 ≤ b) (hr : 0 ≤ r) (hb2 : b < 9223372036854775808) (hr2 : r < 9223372036854775808) (x y : Int) (hx : liab b r = x) (hy : asset b r = y) :
    Calls Try.prog 26 #[.int .i64 b, .int .i64 r] w fun e w' => e = .returned (.tuple #[.int .i64 x, .int .i64 y, .int .i64 0]) ∧ w = w' := by
  by_cases h : r < b
  · have ex : x = b - r := by rw [← hx]; unfold liab; rw [if_pos (by omega)]
    have ey : y = 0 := by rw [← hy]; unfold asset; rw [if_neg (by omega)]
    have EX := Lib.hid ex
    have EY := Lib.hid ey
    clear hx hy ex ey
    go_enter Try.func26, Try.ntmps26
    go_wp2
    go_ret3
    exact ⟨by rw [EX.out, EY.out]; rfl, rfl⟩
  · have ex : x = 0 := by rw [← hx]; unfold liab; rw [if_neg (by omega)]
    have ey : y = r - b := by rw [← hy]; unfold asset; split <;> omega
    have EX := Lib.hid ex
    have EY := Lib.hid ey
    clear hx hy ex ey
    go_enter Try.func26, Try.ntmps26
    go_wp2
    go_ret3
    exact ⟨by rw [EX.out, EY.out]; rfl, rfl⟩
theorem rsides_bad (b r : Int) (w : World) (h : b < 0 ∨ r < 0) :
    Calls Try.prog 26 #[.int .i64 b, .int .i64 r] w fun e w' => e = .returned (.tuple #[.int .i64 0, .int .i64 0, .int .i64 1]) ∧ w = w' := by
  by_cases c : b < 0
  · clear h
    go_enter Try.func26, Try.ntmps26
    go_wp2
    go_ret3
    exact ⟨rfl, rfl⟩
  · have d : r < 0 := by omega
    clear h
    go_enter Try.func26, Try.ntmps26
    go_wp2
    go_ret3
    exact ⟨rfl, rfl⟩

/-- Postings in a row of one's own. -/
def RetW (w : World) (base : Nat) (ps : List Post) (e : Ending) (w' : World) : Prop :=
  ∃ A c, e = .returned (.slice A ps.length c) ∧ w'.ownsRow base 56 3 (.slice A ps.length c) ps.length (cells ps) ∧ Below base w w'

theorem grown_below {w w' : World} {base n : Nat} {A : Option Addr} {c : Nat} {e size : Nat} {xs : List Value} (hg : w.grownBy w' (Value.slice A n c).ownBlock) (ho : w.ownsRow base e size (.slice A n c) n xs) (hb : base ≤ w.heap.size) : Below base w w' :=
  ⟨hg.os, hg.tape, hg.output, hg.size, fun k hk => hg.block k (by omega) (own_ne ho hk)⟩

set_option maxHeartbeats 1000000 in
set_option maxRecDepth 100000 in
theorem with_any (base : Nat) (acc ct amt : Int) (A : Option Addr) (c : Nat) (ps : List Post) (w : World) (hbase : base ≤ w.heap.size) (ho : w.ownsRow base 56 3 (.slice A ps.length c) ps.length (cells ps)) (hl : ps.length ≤ 1000000) :
    Calls Try.prog 52 #[.slice A ps.length c, .int .i64 acc, .int .i64 ct, .int .i64 amt] w (RetW w base (ps ++ layP ct acc amt)) := by
  have HO := Lib.hid ho
  clear ho
  by_cases hz : amt = 0
  · subst hz
    have E1 := Lib.hid (show ps ++ layP ct acc 0 = ps by simp [layP])
    go_enter Try.func52, Try.ntmps52
    go_wp2
    go_ret
    rw [E1.out]
    exact ⟨A, c, rfl, HO.out, Below.refl _ _⟩
  · have hb1 : (ps.length + 1) * 24 ≤ 140737488355328 := by omega
    have hb2 : ps.length + 1 ≤ maxLen := by unfold maxLen; omega
    have hzb : (amt == 0) = false := by simpa using hz
    have E1 := Lib.hid (show ps ++ layP ct acc amt = ps ++ [⟨acc, ct, amt⟩] by unfold layP; rw [if_neg hz])
    clear hz
    go_enter Try.func52, Try.ntmps52
    go_wp2_with (at_builtin; refine wpList_app E_post rfl (.tmp 12) (.tmp 17) rfl rfl (HO.out.alloc _) ⟨w.heap.size, 0, none⟩ 1 1 [_, _, _] rfl rfl (World.news_of_block (heap_alloc_new w _)) (by simp [Value.oneCell']) hb1 hb2 (by simp; omega) (by decide) ?_; intro q cap w1 hown1 hg1 hat1; have HW := Lib.hid hown1; have HG := Lib.hid hg1; have HA := Lib.hid hat1; clear hown1 hg1 hat1)
    go_ret
    rw [E1.out]
    refine ⟨some ⟨q, 0, none⟩, cap, by rw [List.length_append]; rfl, ?_, ?_⟩
    · rw [List.length_append, cells_append, cells_one]; exact HW.out
    · have b1 : Below base w (w.alloc (.cells #[.int .i64 acc, .int .i64 ct, .int .i64 amt] 56)) := (Below.refl _ _).alloc hbase _
      exact b1.trans (grown_below HG.out (HO.out.alloc _) (by simp; omega))

open Exact in
theorem fitT_is {n x y : Int} (hx : fitN n = x) (hy : fitE n = y) : fitT n = .tuple #[.int .i64 x, .int .i64 y] := by unfold fitT; rw [hx, hy]
theorem allNew (w : World) : Exact.New w (fun _ => True) := fun _ _ => trivial

section
variable (ct b r p q : Int) (w : World)
/-- The arguments of Change. -/
def chArgs : Array Value := #[.int .i64 ct, .int .i64 b, .int .i64 r, .int .i64 p, .int .i64 q]
set_option maxHeartbeats 2000000 in
set_option maxRecDepth 100000 in
theorem rchange_arg (h : ct < 0 ∨ 40 ≤ ct ∨ b < 0 ∨ r < 0) : Calls Try.prog 28 #[.int .i64 ct, .int .i64 b, .int .i64 r, .int .i64 p, .int .i64 q] w (RetPs w [] 1) := by
  by_cases c1 : ct < 0
  · clear h
    go_enter Try.func28, Try.ntmps28
    go_wp2_with fail
    go_ret2
    exact RetPs.none_ (Below.refl _ _)
  · by_cases c2 : 40 ≤ ct
    · clear h
      go_enter Try.func28, Try.ntmps28
      go_wp2_with fail
      go_ret2
      exact RetPs.none_ (Below.refl _ _)
    · by_cases c3 : b < 0
      · clear h
        go_enter Try.func28, Try.ntmps28
        go_wp2_with fail
        go_ret2
        exact RetPs.none_ (Below.refl _ _)
      · have c4 : r < 0 := by omega
        clear h
        go_enter Try.func28, Try.ntmps28
        go_wp2_with fail
        go_ret2
        exact RetPs.none_ (Below.refl _ _)

set_option maxHeartbeats 2000000 in
set_option maxRecDepth 100000 in
theorem rchange_ok (h0 : 0 ≤ ct) (h1 : ct < 40) (h2 : 0 ≤ b) (h3 : 0 ≤ r) (i1 : I64 b) (i2 : I64 r) (i3 : I64 p) (i4 : I64 q) :
    Calls Try.prog 28 #[.int .i64 ct, .int .i64 b, .int .i64 r, .int .i64 p, .int .i64 q] w (RetPs w (chgP ct b r p q) (chgE ct b r p q)) := by
  have I1 := Lib.hid i1
  have I2 := Lib.hid i2
  have I3 := Lib.hid i3
  have I4 := Lib.hid i4
  obtain ⟨n1, hn1⟩ : ∃ x, Exact.fitN (b + p) = x := ⟨_, rfl⟩
  obtain ⟨e1, he1⟩ : ∃ x, Exact.fitE (b + p) = x := ⟨_, rfl⟩
  obtain ⟨n2, hn2⟩ : ∃ x, Exact.fitN (r + q) = x := ⟨_, rfl⟩
  obtain ⟨e2, he2⟩ : ∃ x, Exact.fitE (r + q) = x := ⟨_, rfl⟩
  have T1 := Lib.hid (fitT_is hn1 he1)
  have T2 := Lib.hid (fitT_is hn2 he2)
  have N1 := Lib.hid hn1
  have N2 := Lib.hid hn2
  have E1 := Lib.hid he1
  have E2 := Lib.hid he2
  clear i1 i2 i3 i4 hn1 hn2 he1 he2
  go_enter Try.func28, Try.ntmps28
  go_wp2_with fail
  refine (Exact.of_any (fun _ => True) b _ (allNew _) I1.out).mono ?_
  rintro e w1 ⟨v1, rfl, x1, hb1⟩
  have X1 := Lib.hid x1
  have B1 := Lib.hid hb1
  clear x1 hb1
  go_wp2_with fail
  refine (Exact.of_any (fun _ => True) p _ (allNew _) I3.out).mono ?_
  rintro e w2 ⟨v2, rfl, x2, hb2⟩
  have X12 := Lib.hid (X1.out.below hb2)
  have X2 := Lib.hid x2
  have B2 := Lib.hid (B1.out.trans (hb2.mono B1.out.size))
  clear x2 hb2 X1 B1
  go_wp2_with fail
  refine (Exact.plus_any (fun _ => True) _ _ b p 7 _ (allNew _) X12.out X2.out (by omega)).mono ?_
  rintro e w3 ⟨v3, rfl, x3, hb3⟩
  have X3 := Lib.hid x3
  have B3 := Lib.hid (B2.out.trans (hb3.mono B2.out.size))
  clear x3 hb3 X12 X2 B2
  go_wp2_with fail
  refine (Exact.fit_any _ (b + p) 8 _ X3.out (by omega) (by omega)).mono ?_
  rintro e w4 ⟨he, hb4⟩
  rw [T1.out] at he
  subst he
  have B4 := Lib.hid (B3.out.trans (hb4.mono B3.out.size))
  clear hb4 X3 B3
  go_wp2_with fail
  refine (Exact.of_any (fun _ => True) r _ (allNew _) I2.out).mono ?_
  rintro e w5 ⟨v5, rfl, x5, hb5⟩
  have X5 := Lib.hid x5
  have B5 := Lib.hid (B4.out.trans (hb5.mono B4.out.size))
  clear x5 hb5 B4
  go_wp2_with fail
  refine (Exact.of_any (fun _ => True) q _ (allNew _) I4.out).mono ?_
  rintro e w6 ⟨v6, rfl, x6, hb6⟩
  have X56 := Lib.hid (X5.out.below hb6)
  have X6 := Lib.hid x6
  have B6 := Lib.hid (B5.out.trans (hb6.mono B5.out.size))
  clear x6 hb6 X5 B5
  go_wp2_with fail
  refine (Exact.plus_any (fun _ => True) _ _ r q 7 _ (allNew _) X56.out X6.out (by omega)).mono ?_
  rintro e w7 ⟨v7, rfl, x7, hb7⟩
  have X7 := Lib.hid x7
  have B7 := Lib.hid (B6.out.trans (hb7.mono B6.out.size))
  clear x7 hb7 X56 X6 B6
  go_wp2_with fail
  refine (Exact.fit_any _ (r + q) 8 _ X7.out (by omega) (by omega)).mono ?_
  rintro e w8 ⟨he, hb8⟩
  rw [T2.out] at he
  subst he
  have B8 := Lib.hid (B7.out.trans (hb8.mono B7.out.size))
  clear hb8 X7 B7 T1 T2
  by_cases c1 : I64 (b + p)
  · by_cases c2 : I64 (r + q)
    · obtain rfl : n1 = b + p := by rw [← N1.out]; unfold Exact.fitN; rw [if_pos c1]
      obtain rfl : e1 = 0 := by rw [← E1.out]; unfold Exact.fitE; rw [if_pos c1]
      obtain rfl : n2 = r + q := by rw [← N2.out]; unfold Exact.fitN; rw [if_pos c2]
      obtain rfl : e2 = 0 := by rw [← E2.out]; unfold Exact.fitE; rw [if_pos c2]
      have C1 := Lib.hid c1
      have C2 := Lib.hid c2
      clear c1 c2 N1 N2 E1 E2
      by_cases d1 : b + p < 0
      · have HE := Lib.hid (show chgE ct b r p q = 1 by unfold chgE; rw [if_neg (by omega), if_neg (by rintro (h | h); exact h C1.out; exact h C2.out), if_pos (by omega)])
        go_wp2_with fail
        go_ret2
        unfold chgP
        rw [HE.out]
        exact RetPs.none_ B8.out
      · by_cases d2 : r + q < 0
        · have HE := Lib.hid (show chgE ct b r p q = 1 by unfold chgE; rw [if_neg (by omega), if_neg (by rintro (h | h); exact h C1.out; exact h C2.out), if_pos (by omega)])
          go_wp2_with fail
          go_ret2
          unfold chgP
          rw [HE.out]
          exact RetPs.none_ B8.out
        · have HE := Lib.hid (show chgE ct b r p q = 0 by unfold chgE; rw [if_neg (by omega), if_neg (by rintro (h | h); exact h C1.out; exact h C2.out), if_neg (by omega)])
          obtain ⟨l1, hl1⟩ : ∃ x, liab b r = x := ⟨_, rfl⟩
          obtain ⟨s1, hs1⟩ : ∃ x, asset b r = x := ⟨_, rfl⟩
          obtain ⟨m1, hm1⟩ : ∃ x, b + p = x := ⟨_, rfl⟩
          obtain ⟨m2, hm2⟩ : ∃ x, r + q = x := ⟨_, rfl⟩
          obtain ⟨l2, hl2⟩ : ∃ x, liab m1 m2 = x := ⟨_, rfl⟩
          obtain ⟨s2, hs2⟩ : ∃ x, asset m1 m2 = x := ⟨_, rfl⟩
          have k1 := I1.out.2
          have k2 := I2.out.2
          have k3 := C1.out.2
          have k4 := C2.out.2
          rw [hm1] at k3 d1
          rw [hm2] at k4 d2
          obtain ⟨r10, r11⟩ : 0 ≤ l1 ∧ l1 ≤ b := by rw [← hl1]; unfold liab; split <;> omega
          obtain ⟨r20, r21⟩ : 0 ≤ s1 ∧ s1 ≤ r := by rw [← hs1]; unfold asset; split <;> omega
          obtain ⟨r30, r31⟩ : 0 ≤ l2 ∧ l2 ≤ m1 := by rw [← hl2]; unfold liab; split <;> omega
          obtain ⟨r40, r41⟩ : 0 ≤ s2 ∧ s2 ≤ m2 := by rw [← hs2]; unfold asset; split <;> omega
          have q1 : -9223372036854775808 < q := by omega
          have q2 := I4.out.2
          have HC := Lib.hid (show chgP ct b r p q = [] ++ layP ct 0 p ++ layP ct 1 (-(l2 - l1)) ++ layP ct 2 (s2 - s1) ++ layP ct 3 (-q) by
            unfold chgP; rw [if_pos HE.out]; unfold chg; rw [hm1, hm2, hl1, hs1, hl2, hs2, show m1 - b = p by omega, show l1 - l2 = -(l2 - l1) by omega, show r - m2 = -q by omega]; simp)
          have L1 := Lib.hid hl1
          have S1 := Lib.hid hs1
          have L2 := Lib.hid hl2
          have S2 := Lib.hid hs2
          rw [hm1, hm2]
          clear hl1 hs1 hl2 hs2 hm1 hm2
          have M1 : 0 ≤ m1 := by omega
          have M2 : 0 ≤ m2 := by omega
          go_wp2_with fail
          refine (rsides_any b r _ h2 h3 k1 k2 l1 s1 L1.out S1.out).mono ?_
          rintro e x1 ⟨rfl, rfl⟩
          go_wp2_with fail
          refine (rsides_any m1 m2 _ M1 M2 k3 k4 l2 s2 L2.out S2.out).mono ?_
          rintro e x1 ⟨rfl, rfl⟩
          go_wp2_with fail
          have y0 : Below w8.heap.size w8 (w8.alloc (.cells #[] 56)) := (Below.refl _ _).alloc (Nat.le_refl _) _
          have Y0 := Lib.hid y0
          clear y0
          refine (with_any w8.heap.size 0 ct _ _ _ [] _ (by simp) (World.ownsRow_lit w8 #[] 0 (Nat.le_refl _) (by decide) rfl) (by decide)).mono ?_
          rintro e y1 ⟨A1, c1, rfl, o1, b1⟩
          obtain ⟨ps1, hp1⟩ : ∃ x, [] ++ layP ct 0 p = x := ⟨_, rfl⟩
          have LN1 : ps1.length ≤ 1 := by rw [← hp1]; have := layP_len ct 0 p; simpa using this
          rw [hp1] at o1
          rw [hp1]
          have P1 := Lib.hid hp1
          have O1 := Lib.hid o1
          have Y1 := Lib.hid (Y0.out.trans b1)
          clear hp1 o1 b1
          go_wp2_with fail
          refine (with_any w8.heap.size 1 ct _ A1 c1 ps1 _ Y1.out.size O1.out (by have := LN1; omega)).mono ?_
          rintro e y2 ⟨A2, c2, rfl, o2, b2⟩
          obtain ⟨ps2, hp2⟩ : ∃ x, ps1 ++ layP ct 1 (-(l2 - l1)) = x := ⟨_, rfl⟩
          have LN2 : ps2.length ≤ 2 := by rw [← hp2, List.length_append]; have := LN1; have := layP_len ct 1 (-(l2 - l1)); omega
          rw [hp2] at o2
          rw [hp2]
          have P2 := Lib.hid hp2
          have O2 := Lib.hid o2
          have Y2 := Lib.hid (Y1.out.trans b2)
          clear hp2 o2 b2
          go_wp2_with fail
          refine (with_any w8.heap.size 2 ct _ A2 c2 ps2 _ Y2.out.size O2.out (by have := LN2; omega)).mono ?_
          rintro e y3 ⟨A3, c3, rfl, o3, b3⟩
          obtain ⟨ps3, hp3⟩ : ∃ x, ps2 ++ layP ct 2 (s2 - s1) = x := ⟨_, rfl⟩
          have LN3 : ps3.length ≤ 3 := by rw [← hp3, List.length_append]; have := LN2; have := layP_len ct 2 (s2 - s1); omega
          rw [hp3] at o3
          rw [hp3]
          have P3 := Lib.hid hp3
          have O3 := Lib.hid o3
          have Y3 := Lib.hid (Y2.out.trans b3)
          clear hp3 o3 b3
          go_wp2_with fail
          refine (with_any w8.heap.size 3 ct _ A3 c3 ps3 _ Y3.out.size O3.out (by have := LN3; omega)).mono ?_
          rintro e y4 ⟨A4, c4, rfl, o4, b4⟩
          obtain ⟨ps4, hp4⟩ : ∃ x, ps3 ++ layP ct 3 (-q) = x := ⟨_, rfl⟩
          have LN4 : ps4.length ≤ 4 := by rw [← hp4, List.length_append]; have := LN3; have := layP_len ct 3 (-q); omega
          rw [hp4] at o4
          rw [hp4]
          have P4 := Lib.hid hp4
          have O4 := Lib.hid o4
          have Y4 := Lib.hid (Y3.out.trans b4)
          clear hp4 o4 b4
          go_wp2_with fail
          go_ret2
          rw [HC.out, HE.out, P1.out, P2.out, P3.out, P4.out]
          exact ⟨A4, c4, rfl, own_weak O4.out B8.out.size, B8.out.trans (Y4.out.mono B8.out.size)⟩
    · obtain rfl : e1 = 0 := by rw [← E1.out]; unfold Exact.fitE; rw [if_pos c1]
      obtain rfl : e2 = 3 := by rw [← E2.out]; unfold Exact.fitE; rw [if_neg c2]
      have HE := Lib.hid (show chgE ct b r p q = 3 by unfold chgE; rw [if_neg (by omega), if_pos (.inr c2)])
      clear c1 c2 N1 N2 E1 E2
      go_wp2_with fail
      go_ret2
      unfold chgP
      rw [HE.out]
      exact RetPs.none_ B8.out
  · obtain rfl : e1 = 3 := by rw [← E1.out]; unfold Exact.fitE; rw [if_neg c1]
    have HE := Lib.hid (show chgE ct b r p q = 3 by unfold chgE; rw [if_neg (by omega), if_pos (.inl c1)])
    clear c1 N1 N2 E1 E2
    go_wp2_with fail
    go_ret2
    unfold chgP
    rw [HE.out]
    exact RetPs.none_ B8.out
theorem rchange_any (i1 : I64 b) (i2 : I64 r) (i3 : I64 p) (i4 : I64 q) :
    Calls Try.prog 28 #[.int .i64 ct, .int .i64 b, .int .i64 r, .int .i64 p, .int .i64 q] w (RetPs w (chgP ct b r p q) (chgE ct b r p q)) := by
  by_cases h : ct < 0 ∨ 40 ≤ ct ∨ b < 0 ∨ r < 0
  · have he : chgE ct b r p q = 1 := by unfold chgE; rw [if_pos h]
    unfold chgP; rw [he]; exact rchange_arg ct b r p q w h
  · exact rchange_ok ct b r p q w (by omega) (by omega) (by omega) (by omega) i1 i2 i3 i4
end
end Go.Proofs.Ytdapcahphaldjaa.Net
