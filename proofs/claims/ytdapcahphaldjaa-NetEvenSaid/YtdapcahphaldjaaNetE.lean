/- The walk of the law NetEven. (printed by wip/gen/neteven.py) -/
import Derived.Test.YtdapcahphaldjaaNetK
import Derived.Test.YtdapcahphaldjaaNetIx
import Derived.Test.YtdapcahphaldjaaLaw01
namespace Go.Proofs.Ytdapcahphaldjaa.Net
open Go.RowKit Go.Proofs.Ytdapcahphaldjaa.Cents
set_option linter.unusedVariables false
set_option linter.unusedSimpArgs false

/-! ### the plain law -/
def amtL (l : List Post) : List Int := l.map Post.amt
theorem sum_layP (ct acc amt : Int) : (amtL (layP ct acc amt)).sum = amt := by
  unfold layP
  by_cases c : amt = 0
  · rw [if_pos c]; subst c; rfl
  · rw [if_neg c]; simp [amtL]
theorem liab_asset (b r : Int) : liab b r - asset b r = b - r := by unfold liab asset; split <;> split <;> omega
theorem sum_chg (ct fb fr tb tr : Int) : (amtL (chg ct fb fr tb tr)).sum = 0 := by
  have e : amtL (chg ct fb fr tb tr) = amtL (layP ct 0 (tb - fb)) ++ amtL (layP ct 1 (liab fb fr - liab tb tr)) ++ amtL (layP ct 2 (asset tb tr - asset fb fr)) ++ amtL (layP ct 3 (fr - tr)) := by simp [chg, amtL]
  rw [e, List.sum_append, List.sum_append, List.sum_append, sum_layP, sum_layP, sum_layP, sum_layP]
  have := liab_asset fb fr
  have := liab_asset tb tr
  omega
theorem sum_chgP (ct b r p q : Int) : (amtL (chgP ct b r p q)).sum = 0 := by
  unfold chgP
  split
  · exact sum_chg _ _ _ _ _
  · rfl

/-- In the loop over one row of postings: the amounts so far are a row of the call's own. -/
structure EvW (w0 : World) (xs : List Int) (v : Value) (wr : World) : Prop where
  own : wr.ownsRow w0.heap.size 2 1 v xs.length (ints xs)
  be : Below w0.heap.size w0 wr
theorem sum_len (A : Option Addr) (xs : List Int) (c n : Nat) (w : World) (hn : xs.length = n) (hx : ∀ x ∈ xs, I64 x) (hr : Row w 0 A (ints xs)) (hl : xs.length * 8 ≤ 140737488351232) (h : xs.sum = 0) :
    Calls Try.prog 32 #[.slice A n c] w fun e w' => e = .returned (.tuple #[.int .i64 0, .int .i64 0]) ∧ Below w.heap.size w w' := by
  subst hn
  exact sum_is A xs c w 0 0 hx hr hl (by rw [h]; exact ⟨rfl, rfl⟩)
theorem ints_app (a b : List Int) : ints (a ++ b) = ints a ++ ints b := by simp [ints]
theorem amt_take {ps : List Post} {j : Nat} (h : j < ps.length) : (amtL ps).take (j + 1) = (amtL ps).take j ++ [ps[j].amt] := by
  rw [take_end (by simpa [amtL] using h)]
  simp [amtL]
theorem EvW.step {w0 wr w1 : World} {xs : List Int} {A : Option Addr} {n c cap q : Nat} {x : Int} {o1 o2 : Obj} (h : EvW w0 xs (.slice A n c) wr) (hn : xs.length = n) (hown : w1.ownsRow w0.heap.size 2 1 (.slice (some ⟨q, 0, none⟩) (n + 1) cap) (n + 1) (ints xs ++ [.int .i64 x])) (hg : ((wr.alloc o1).alloc o2).grownBy w1 (Value.slice A n c).ownBlock) : EvW w0 (xs ++ [x]) (.slice (some ⟨q, 0, none⟩) (n + 1) cap) w1 where
  own := by rw [List.length_append, hn, ints_app]; exact hown
  be := by
    have h0 := h.own
    rw [hn] at h0
    have b1 : Below w0.heap.size w0 ((wr.alloc o1).alloc o2) := (h.be.alloc h.be.size _).alloc (by have := h.be.size; simp; omega) _
    refine ⟨hg.os.trans b1.os, hg.tape.trans b1.tape, hg.output.trans b1.output, Nat.le_trans b1.size hg.size, fun k hk => ?_⟩
    exact (hg.block k (by have := b1.size; omega) (own_ne h0 hk)).trans (b1.block k hk)

set_option maxHeartbeats 2000000 in
set_option maxRecDepth 100000 in
theorem even_bad (ct b r m : Int) (w : World) (i1 : I64 b) (i2 : I64 r) (i3 : I64 m) (h : b < 0 ∨ r < 0) :
    Calls Try.prog 8 #[.int .i64 ct, .int .i64 b, .int .i64 r, .int .i64 m] w fun e w' => e = .returned (.bool true) ∧ Below w.heap.size w w' := by
  have I1 := Lib.hid i1
  have I2 := Lib.hid i2
  have I3 := Lib.hid i3
  have b1 := i1.1
  have b2 := i1.2
  have b3 := i2.1
  have b4 := i2.2
  obtain ⟨ps, hp⟩ : ∃ x, chgP ct b r m 0 = x := ⟨_, rfl⟩
  obtain ⟨n, hn⟩ : ∃ x, ps.length = x := ⟨_, rfl⟩
  obtain ⟨er, he⟩ : ∃ x, chgE ct b r m 0 = x := ⟨_, rfl⟩
  obtain ⟨qs, hq⟩ : ∃ x, chgP ct b r 0 m = x := ⟨_, rfl⟩
  obtain ⟨k, hk⟩ : ∃ x, qs.length = x := ⟨_, rfl⟩
  obtain ⟨er2, he2⟩ : ∃ x, chgE ct b r 0 m = x := ⟨_, rfl⟩
  have ln : n ≤ 4 := by rw [← hn, ← hp]; exact chgP_len _ _ _ _ _
  have lk : k ≤ 4 := by rw [← hk, ← hq]; exact chgP_len _ _ _ _ _
  have pm : ∀ x ∈ ps, x.ct = ct ∧ x.amt ≠ 0 ∧ 0 ≤ x.acc ∧ x.acc ≤ 3 ∧ -9223372036854775808 < x.amt ∧ x.amt < 9223372036854775808 := fun x hx => chgP_mem i1 i2 (by rw [hp]; exact hx)
  have qm : ∀ x ∈ qs, x.ct = ct ∧ x.amt ≠ 0 ∧ 0 ≤ x.acc ∧ x.acc ≤ 3 ∧ -9223372036854775808 < x.amt ∧ x.amt < 9223372036854775808 := fun x hx => chgP_mem i1 i2 (by rw [hq]; exact hx)
  have SP := Lib.hid (show (amtL ps).sum = 0 by rw [← hp]; exact sum_chgP _ _ _ _ _)
  have SQ := Lib.hid (show (amtL qs).sum = 0 by rw [← hq]; exact sum_chgP _ _ _ _ _)
  have IP := Lib.hid (show ∀ x ∈ amtL ps, I64 x by
    intro x hx
    obtain ⟨y, hy, rfl⟩ := List.mem_map.1 hx
    obtain ⟨_, _, _, _, h5, h6⟩ := pm y hy
    exact ⟨by omega, by omega⟩)
  have IQ := Lib.hid (show ∀ x ∈ amtL qs, I64 x by
    intro x hx
    obtain ⟨y, hy, rfl⟩ := List.mem_map.1 hx
    obtain ⟨_, _, _, _, h5, h6⟩ := qm y hy
    exact ⟨by omega, by omega⟩)
  have e1 : er = 0 ∨ ((er == 0) = false ∧ n = 0) := by
    by_cases c : er = 0
    · exact .inl c
    · have : ps = [] := by rw [← hp]; exact chgP_none (by rw [he]; exact c)
      exact .inr ⟨by simpa using c, by rw [← hn, this]; rfl⟩
  have e2 : er2 = 0 ∨ ((er2 == 0) = false ∧ k = 0) := by
    by_cases c : er2 = 0
    · exact .inl c
    · have : qs = [] := by rw [← hq]; exact chgP_none (by rw [he2]; exact c)
      exact .inr ⟨by simpa using c, by rw [← hk, this]; rfl⟩
  have EE1 := Lib.hid e1
  have EE2 := Lib.hid e2
  have PM := Lib.hid pm
  have QM := Lib.hid qm
  have HP := Lib.hid hp
  have HN := Lib.hid hn
  have HE := Lib.hid he
  have HQ := Lib.hid hq
  have HK := Lib.hid hk
  have HE2 := Lib.hid he2
  clear i1 i2 i3 hp hn he hq hk he2 pm qm e1 e2
  go_enter Try.func8, Try.ntmps8
  go_wp2_with fail
  refine (awake17 _).mono ?_
  rintro e w1 ⟨rfl, hb1⟩
  have B1 := Lib.hid hb1
  clear hb1
  go_wp2_with fail
  refine (sides_bad _ _ _ h).mono ?_
  rintro e x1 ⟨rfl, rfl⟩
  go_wp2_with fail
  refine (bill_is ct b r m _ ps n er I1.out I2.out I3.out HP.out HE.out HN.out).mono ?_
  rintro e w2 ⟨A2, c2, rfl, r2, hb2⟩
  have R2 := Lib.hid r2
  have B2 := Lib.hid (B1.out.trans (hb2.mono B1.out.size))
  clear r2 hb2
  go_wp2_with fail
  refine (earn_is ct b r m _ qs k er2 I1.out I2.out I3.out HQ.out HE2.out HK.out).mono ?_
  rintro e w3 ⟨A3, c3, rfl, r3, hb3⟩
  have R23 := Lib.hid (R2.out.below hb3)
  have R3 := Lib.hid r3
  have B3 := Lib.hid (B2.out.trans (hb3.mono B2.out.size))
  clear r3 hb3 R2
  go_wp2_with fail
  go_loopw [78] (fun i wr => (i = .int .i64 0 ∨ i = .int .i64 1 ∨ i = .int .i64 2) ∧ Below w3.heap.size w3 wr) (fun i _ => 2 - (intOf i).toNat)
  case atStart => exact ⟨.inl rfl, Below.refl _ _⟩
  case round =>
    obtain ⟨hi, hbr⟩ := hrel
    obtain ⟨wo, rfl⟩ : ∃ x, x = wr := ⟨_, rfl⟩
    have RA := Lib.hid (R23.out.below hbr)
    have RB := Lib.hid (R3.out.below hbr)
    rcases hi with rfl | rfl | rfl
    · have hix := index_two0 wo (.slice A2 n c2) (.slice A3 k c3)
      go_wp2_with fail
      clear hix
      have HNL := Lib.hid (show n ≤ 4 by omega)
      go_loopw [18, 83] (fun s i wr' => ∃ (j : Nat) (B : Option Addr) (c : Nat), i = .int .i64 (j : Int) ∧ s = .slice B j c ∧ j ≤ n ∧ EvW wo ((amtL ps).take j) (.slice B j c) wr') (fun _ i _ => n - (intOf i).toNat)
      case atStart => exact ⟨0, none, 0, rfl, rfl, Nat.zero_le _, World.ownsRow_nil _ _ _ _, Below.refl _ _⟩
      case round =>
        obtain ⟨j, B, cb, rfl, rfl, hj, hev⟩ := hrel
        have HEV := Lib.hid hev
        by_cases hlt : j < n
        · obtain ⟨ax, hax, _, x0, x1, x2⟩ := Row.post (RA.out.below hev.be) (j := j) (by rw [HN.out]; exact hlt)
          subst hax
          obtain ⟨px, hpx⟩ : ∃ p, p = ps[j]'(by rw [HN.out]; exact hlt) := ⟨_, rfl⟩
          have hmem : px ∈ ps := by rw [hpx]; exact List.getElem_mem _
          have HJ := Lib.hid (show ((amtL ps).take j).length = j by simp [amtL, HN.out]; omega)
          have HT := Lib.hid (show (amtL ps).take (j + 1) = (amtL ps).take j ++ [px.amt] by rw [hpx]; exact amt_take _)
          rw [← hpx] at x0 x1 x2
          obtain ⟨hc1, hc2, _, _, _, _⟩ := PM.out _ hmem
          clear hpx hmem hev
          rcases px with ⟨p0, p1, p2⟩
          dsimp only at x0 x1 x2 hc1 hc2 HT
          subst hc1
          have hz2 : (p2 == 0) = false := by simpa using hc2
          have hb1 : (j + 1) * 8 ≤ 140737488355328 := by omega
          have hb2 : j + 1 ≤ maxLen := by unfold maxLen; omega
          have OW := Lib.hid (show wr.ownsRow wo.heap.size 2 1 (.slice B j cb) j (ints ((amtL ps).take j)) by have := HEV.out.own; rw [HJ.out] at this; exact this)
          have hbs : wo.heap.size ≤ wr.heap.size := HEV.out.be.size
          go_wp2_with (at_builtin; refine wpList_app E_i64 rfl (.tmp 96) (.tmp 99) rfl (n := j) (xs := ints ((amtL ps).take j)) rfl ((OW.out.alloc _).alloc _) ⟨wr.heap.size + 1, 0, none⟩ 1 1 [.int .i64 p2] rfl rfl (World.news_of_block (by have := heap_alloc_new (wr.alloc (.cells #[.int .i64 p0, .int .i64 p1, .int .i64 p2] 56)) (.cells #[.int .i64 p2] 2); simpa using this)) (one_cell _ _) hb1 hb2 (by simp; omega) (by decide) ?_; intro g cap w6 hown6 hg6 hat6; have HO := Lib.hid hown6; have HG := Lib.hid hg6; clear hown6 hg6 hat6)
          go_roundw
          case rel => exact ⟨j + 1, _, _, by go_num, rfl, by omega, by rw [HT.out]; exact HEV.out.step HJ.out HO.out HG.out⟩
          case measure => simp only [intOf]; omega
        · obtain rfl : j = n := by omega
          have HA := Lib.hid (show (amtL ps).take j = amtL ps from List.take_of_length_le (by simp [amtL, HN.out]))
          have HL := Lib.hid (show (amtL ps).length = j by simp [amtL, HN.out])
          have OW := Lib.hid (show wr.ownsRow wo.heap.size 2 1 (.slice B j cb) j (ints (amtL ps)) by have := HEV.out.own; rw [HA.out, HL.out] at this; exact this)
          have BQ := Lib.hid HEV.out.be
          clear hev
          go_wp2_with fail
          refine (sum_len B (amtL ps) cb _ _ HL.out IP.out ((Row.of_own OW.out (by decide)).weak (Nat.zero_le _)) (by rw [HL.out]; omega) SP.out).mono ?_
          rintro e w7 ⟨rfl, hb7⟩
          have BS := Lib.hid (BQ.out.trans (hb7.mono BQ.out.size))
          clear hb7
          go_wp2_with fail
          go_roundw
          case rel => exact ⟨.inr (.inl rfl), hbr.trans (BS.out.mono hbr.size)⟩
          case measure => simp [intOf]
    · have hix := index_two1 wo (.slice A2 n c2) (.slice A3 k c3)
      go_wp2_with fail
      clear hix
      have HNL := Lib.hid (show k ≤ 4 by omega)
      go_loopw [18, 83] (fun s i wr' => ∃ (j : Nat) (B : Option Addr) (c : Nat), i = .int .i64 (j : Int) ∧ s = .slice B j c ∧ j ≤ k ∧ EvW wo ((amtL qs).take j) (.slice B j c) wr') (fun _ i _ => k - (intOf i).toNat)
      case atStart => exact ⟨0, none, 0, rfl, rfl, Nat.zero_le _, World.ownsRow_nil _ _ _ _, Below.refl _ _⟩
      case round =>
        obtain ⟨j, B, cb, rfl, rfl, hj, hev⟩ := hrel
        have HEV := Lib.hid hev
        by_cases hlt : j < k
        · obtain ⟨ax, hax, _, x0, x1, x2⟩ := Row.post (RB.out.below hev.be) (j := j) (by rw [HK.out]; exact hlt)
          subst hax
          obtain ⟨px, hpx⟩ : ∃ p, p = qs[j]'(by rw [HK.out]; exact hlt) := ⟨_, rfl⟩
          have hmem : px ∈ qs := by rw [hpx]; exact List.getElem_mem _
          have HJ := Lib.hid (show ((amtL qs).take j).length = j by simp [amtL, HK.out]; omega)
          have HT := Lib.hid (show (amtL qs).take (j + 1) = (amtL qs).take j ++ [px.amt] by rw [hpx]; exact amt_take _)
          rw [← hpx] at x0 x1 x2
          obtain ⟨hc1, hc2, _, _, _, _⟩ := QM.out _ hmem
          clear hpx hmem hev
          rcases px with ⟨p0, p1, p2⟩
          dsimp only at x0 x1 x2 hc1 hc2 HT
          subst hc1
          have hz2 : (p2 == 0) = false := by simpa using hc2
          have hb1 : (j + 1) * 8 ≤ 140737488355328 := by omega
          have hb2 : j + 1 ≤ maxLen := by unfold maxLen; omega
          have OW := Lib.hid (show wr.ownsRow wo.heap.size 2 1 (.slice B j cb) j (ints ((amtL qs).take j)) by have := HEV.out.own; rw [HJ.out] at this; exact this)
          have hbs : wo.heap.size ≤ wr.heap.size := HEV.out.be.size
          go_wp2_with (at_builtin; refine wpList_app E_i64 rfl (.tmp 96) (.tmp 99) rfl (n := j) (xs := ints ((amtL qs).take j)) rfl ((OW.out.alloc _).alloc _) ⟨wr.heap.size + 1, 0, none⟩ 1 1 [.int .i64 p2] rfl rfl (World.news_of_block (by have := heap_alloc_new (wr.alloc (.cells #[.int .i64 p0, .int .i64 p1, .int .i64 p2] 56)) (.cells #[.int .i64 p2] 2); simpa using this)) (one_cell _ _) hb1 hb2 (by simp; omega) (by decide) ?_; intro g cap w6 hown6 hg6 hat6; have HO := Lib.hid hown6; have HG := Lib.hid hg6; clear hown6 hg6 hat6)
          go_roundw
          case rel => exact ⟨j + 1, _, _, by go_num, rfl, by omega, by rw [HT.out]; exact HEV.out.step HJ.out HO.out HG.out⟩
          case measure => simp only [intOf]; omega
        · obtain rfl : j = k := by omega
          have HA := Lib.hid (show (amtL qs).take j = amtL qs from List.take_of_length_le (by simp [amtL, HK.out]))
          have HL := Lib.hid (show (amtL qs).length = j by simp [amtL, HK.out])
          have OW := Lib.hid (show wr.ownsRow wo.heap.size 2 1 (.slice B j cb) j (ints (amtL qs)) by have := HEV.out.own; rw [HA.out, HL.out] at this; exact this)
          have BQ := Lib.hid HEV.out.be
          clear hev
          go_wp2_with fail
          refine (sum_len B (amtL qs) cb _ _ HL.out IQ.out ((Row.of_own OW.out (by decide)).weak (Nat.zero_le _)) (by rw [HL.out]; omega) SQ.out).mono ?_
          rintro e w7 ⟨rfl, hb7⟩
          have BS := Lib.hid (BQ.out.trans (hb7.mono BQ.out.size))
          clear hb7
          go_wp2_with fail
          go_roundw
          case rel => exact ⟨.inr (.inr rfl), hbr.trans (BS.out.mono hbr.size)⟩
          case measure => simp [intOf]
    · have hE := EE1.out
      have hF := EE2.out
      rcases hE with rfl | ⟨hE, rfl⟩ <;> rcases hF with rfl | ⟨hF, rfl⟩
      all_goals
        go_wp2_with fail
        go_ret
        exact ⟨rfl, B3.out.trans (hbr.mono B3.out.size)⟩
set_option maxHeartbeats 2000000 in
set_option maxRecDepth 100000 in
theorem even_low (ct b r m : Int) (w : World) (i1 : I64 b) (i2 : I64 r) (i3 : I64 m) (h1 : 0 ≤ b) (h2 : 0 ≤ r) (h : b ≤ r) :
    Calls Try.prog 8 #[.int .i64 ct, .int .i64 b, .int .i64 r, .int .i64 m] w fun e w' => e = .returned (.bool true) ∧ Below w.heap.size w w' := by
  have I1 := Lib.hid i1
  have I2 := Lib.hid i2
  have I3 := Lib.hid i3
  have b1 := i1.1
  have b2 := i1.2
  have b3 := i2.1
  have b4 := i2.2
  obtain ⟨ps, hp⟩ : ∃ x, chgP ct b r m 0 = x := ⟨_, rfl⟩
  obtain ⟨n, hn⟩ : ∃ x, ps.length = x := ⟨_, rfl⟩
  obtain ⟨er, he⟩ : ∃ x, chgE ct b r m 0 = x := ⟨_, rfl⟩
  obtain ⟨qs, hq⟩ : ∃ x, chgP ct b r 0 m = x := ⟨_, rfl⟩
  obtain ⟨k, hk⟩ : ∃ x, qs.length = x := ⟨_, rfl⟩
  obtain ⟨er2, he2⟩ : ∃ x, chgE ct b r 0 m = x := ⟨_, rfl⟩
  have ln : n ≤ 4 := by rw [← hn, ← hp]; exact chgP_len _ _ _ _ _
  have lk : k ≤ 4 := by rw [← hk, ← hq]; exact chgP_len _ _ _ _ _
  have pm : ∀ x ∈ ps, x.ct = ct ∧ x.amt ≠ 0 ∧ 0 ≤ x.acc ∧ x.acc ≤ 3 ∧ -9223372036854775808 < x.amt ∧ x.amt < 9223372036854775808 := fun x hx => chgP_mem i1 i2 (by rw [hp]; exact hx)
  have qm : ∀ x ∈ qs, x.ct = ct ∧ x.amt ≠ 0 ∧ 0 ≤ x.acc ∧ x.acc ≤ 3 ∧ -9223372036854775808 < x.amt ∧ x.amt < 9223372036854775808 := fun x hx => chgP_mem i1 i2 (by rw [hq]; exact hx)
  have SP := Lib.hid (show (amtL ps).sum = 0 by rw [← hp]; exact sum_chgP _ _ _ _ _)
  have SQ := Lib.hid (show (amtL qs).sum = 0 by rw [← hq]; exact sum_chgP _ _ _ _ _)
  have IP := Lib.hid (show ∀ x ∈ amtL ps, I64 x by
    intro x hx
    obtain ⟨y, hy, rfl⟩ := List.mem_map.1 hx
    obtain ⟨_, _, _, _, h5, h6⟩ := pm y hy
    exact ⟨by omega, by omega⟩)
  have IQ := Lib.hid (show ∀ x ∈ amtL qs, I64 x by
    intro x hx
    obtain ⟨y, hy, rfl⟩ := List.mem_map.1 hx
    obtain ⟨_, _, _, _, h5, h6⟩ := qm y hy
    exact ⟨by omega, by omega⟩)
  have e1 : er = 0 ∨ ((er == 0) = false ∧ n = 0) := by
    by_cases c : er = 0
    · exact .inl c
    · have : ps = [] := by rw [← hp]; exact chgP_none (by rw [he]; exact c)
      exact .inr ⟨by simpa using c, by rw [← hn, this]; rfl⟩
  have e2 : er2 = 0 ∨ ((er2 == 0) = false ∧ k = 0) := by
    by_cases c : er2 = 0
    · exact .inl c
    · have : qs = [] := by rw [← hq]; exact chgP_none (by rw [he2]; exact c)
      exact .inr ⟨by simpa using c, by rw [← hk, this]; rfl⟩
  have EE1 := Lib.hid e1
  have EE2 := Lib.hid e2
  have PM := Lib.hid pm
  have QM := Lib.hid qm
  have HP := Lib.hid hp
  have HN := Lib.hid hn
  have HE := Lib.hid he
  have HQ := Lib.hid hq
  have HK := Lib.hid hk
  have HE2 := Lib.hid he2
  clear i1 i2 i3 hp hn he hq hk he2 pm qm e1 e2
  go_enter Try.func8, Try.ntmps8
  go_wp2_with fail
  refine (awake17 _).mono ?_
  rintro e w1 ⟨rfl, hb1⟩
  have B1 := Lib.hid hb1
  clear hb1
  go_wp2_with fail
  refine (sides_any _ _ _ h1 h2 b2 b4 0 (r - b) ?_ ?_).mono ?_
  · unfold liab; rw [if_neg (by omega)]
  · unfold asset; split <;> omega
  rintro e x1 ⟨rfl, rfl⟩
  have q1 : 0 - (r - b) = b - r := by omega
  have q2 : -(r - b) = b - r := by omega
  have q3 : (b - r == b - r) = true := by simp
  go_wp2_with fail
  refine (bill_is ct b r m _ ps n er I1.out I2.out I3.out HP.out HE.out HN.out).mono ?_
  rintro e w2 ⟨A2, c2, rfl, r2, hb2⟩
  have R2 := Lib.hid r2
  have B2 := Lib.hid (B1.out.trans (hb2.mono B1.out.size))
  clear r2 hb2
  go_wp2_with fail
  refine (earn_is ct b r m _ qs k er2 I1.out I2.out I3.out HQ.out HE2.out HK.out).mono ?_
  rintro e w3 ⟨A3, c3, rfl, r3, hb3⟩
  have R23 := Lib.hid (R2.out.below hb3)
  have R3 := Lib.hid r3
  have B3 := Lib.hid (B2.out.trans (hb3.mono B2.out.size))
  clear r3 hb3 R2
  go_wp2_with fail
  go_loopw [78] (fun i wr => (i = .int .i64 0 ∨ i = .int .i64 1 ∨ i = .int .i64 2) ∧ Below w3.heap.size w3 wr) (fun i _ => 2 - (intOf i).toNat)
  case atStart => exact ⟨.inl rfl, Below.refl _ _⟩
  case round =>
    obtain ⟨hi, hbr⟩ := hrel
    obtain ⟨wo, rfl⟩ : ∃ x, x = wr := ⟨_, rfl⟩
    have RA := Lib.hid (R23.out.below hbr)
    have RB := Lib.hid (R3.out.below hbr)
    rcases hi with rfl | rfl | rfl
    · have hix := index_two0 wo (.slice A2 n c2) (.slice A3 k c3)
      go_wp2_with fail
      clear hix
      have HNL := Lib.hid (show n ≤ 4 by omega)
      go_loopw [18, 83] (fun s i wr' => ∃ (j : Nat) (B : Option Addr) (c : Nat), i = .int .i64 (j : Int) ∧ s = .slice B j c ∧ j ≤ n ∧ EvW wo ((amtL ps).take j) (.slice B j c) wr') (fun _ i _ => n - (intOf i).toNat)
      case atStart => exact ⟨0, none, 0, rfl, rfl, Nat.zero_le _, World.ownsRow_nil _ _ _ _, Below.refl _ _⟩
      case round =>
        obtain ⟨j, B, cb, rfl, rfl, hj, hev⟩ := hrel
        have HEV := Lib.hid hev
        by_cases hlt : j < n
        · obtain ⟨ax, hax, _, x0, x1, x2⟩ := Row.post (RA.out.below hev.be) (j := j) (by rw [HN.out]; exact hlt)
          subst hax
          obtain ⟨px, hpx⟩ : ∃ p, p = ps[j]'(by rw [HN.out]; exact hlt) := ⟨_, rfl⟩
          have hmem : px ∈ ps := by rw [hpx]; exact List.getElem_mem _
          have HJ := Lib.hid (show ((amtL ps).take j).length = j by simp [amtL, HN.out]; omega)
          have HT := Lib.hid (show (amtL ps).take (j + 1) = (amtL ps).take j ++ [px.amt] by rw [hpx]; exact amt_take _)
          rw [← hpx] at x0 x1 x2
          obtain ⟨hc1, hc2, _, _, _, _⟩ := PM.out _ hmem
          clear hpx hmem hev
          rcases px with ⟨p0, p1, p2⟩
          dsimp only at x0 x1 x2 hc1 hc2 HT
          subst hc1
          have hz2 : (p2 == 0) = false := by simpa using hc2
          have hb1 : (j + 1) * 8 ≤ 140737488355328 := by omega
          have hb2 : j + 1 ≤ maxLen := by unfold maxLen; omega
          have OW := Lib.hid (show wr.ownsRow wo.heap.size 2 1 (.slice B j cb) j (ints ((amtL ps).take j)) by have := HEV.out.own; rw [HJ.out] at this; exact this)
          have hbs : wo.heap.size ≤ wr.heap.size := HEV.out.be.size
          go_wp2_with (at_builtin; refine wpList_app E_i64 rfl (.tmp 96) (.tmp 99) rfl (n := j) (xs := ints ((amtL ps).take j)) rfl ((OW.out.alloc _).alloc _) ⟨wr.heap.size + 1, 0, none⟩ 1 1 [.int .i64 p2] rfl rfl (World.news_of_block (by have := heap_alloc_new (wr.alloc (.cells #[.int .i64 p0, .int .i64 p1, .int .i64 p2] 56)) (.cells #[.int .i64 p2] 2); simpa using this)) (one_cell _ _) hb1 hb2 (by simp; omega) (by decide) ?_; intro g cap w6 hown6 hg6 hat6; have HO := Lib.hid hown6; have HG := Lib.hid hg6; clear hown6 hg6 hat6)
          go_roundw
          case rel => exact ⟨j + 1, _, _, by go_num, rfl, by omega, by rw [HT.out]; exact HEV.out.step HJ.out HO.out HG.out⟩
          case measure => simp only [intOf]; omega
        · obtain rfl : j = n := by omega
          have HA := Lib.hid (show (amtL ps).take j = amtL ps from List.take_of_length_le (by simp [amtL, HN.out]))
          have HL := Lib.hid (show (amtL ps).length = j by simp [amtL, HN.out])
          have OW := Lib.hid (show wr.ownsRow wo.heap.size 2 1 (.slice B j cb) j (ints (amtL ps)) by have := HEV.out.own; rw [HA.out, HL.out] at this; exact this)
          have BQ := Lib.hid HEV.out.be
          clear hev
          go_wp2_with fail
          refine (sum_len B (amtL ps) cb _ _ HL.out IP.out ((Row.of_own OW.out (by decide)).weak (Nat.zero_le _)) (by rw [HL.out]; omega) SP.out).mono ?_
          rintro e w7 ⟨rfl, hb7⟩
          have BS := Lib.hid (BQ.out.trans (hb7.mono BQ.out.size))
          clear hb7
          go_wp2_with fail
          go_roundw
          case rel => exact ⟨.inr (.inl rfl), hbr.trans (BS.out.mono hbr.size)⟩
          case measure => simp [intOf]
    · have hix := index_two1 wo (.slice A2 n c2) (.slice A3 k c3)
      go_wp2_with fail
      clear hix
      have HNL := Lib.hid (show k ≤ 4 by omega)
      go_loopw [18, 83] (fun s i wr' => ∃ (j : Nat) (B : Option Addr) (c : Nat), i = .int .i64 (j : Int) ∧ s = .slice B j c ∧ j ≤ k ∧ EvW wo ((amtL qs).take j) (.slice B j c) wr') (fun _ i _ => k - (intOf i).toNat)
      case atStart => exact ⟨0, none, 0, rfl, rfl, Nat.zero_le _, World.ownsRow_nil _ _ _ _, Below.refl _ _⟩
      case round =>
        obtain ⟨j, B, cb, rfl, rfl, hj, hev⟩ := hrel
        have HEV := Lib.hid hev
        by_cases hlt : j < k
        · obtain ⟨ax, hax, _, x0, x1, x2⟩ := Row.post (RB.out.below hev.be) (j := j) (by rw [HK.out]; exact hlt)
          subst hax
          obtain ⟨px, hpx⟩ : ∃ p, p = qs[j]'(by rw [HK.out]; exact hlt) := ⟨_, rfl⟩
          have hmem : px ∈ qs := by rw [hpx]; exact List.getElem_mem _
          have HJ := Lib.hid (show ((amtL qs).take j).length = j by simp [amtL, HK.out]; omega)
          have HT := Lib.hid (show (amtL qs).take (j + 1) = (amtL qs).take j ++ [px.amt] by rw [hpx]; exact amt_take _)
          rw [← hpx] at x0 x1 x2
          obtain ⟨hc1, hc2, _, _, _, _⟩ := QM.out _ hmem
          clear hpx hmem hev
          rcases px with ⟨p0, p1, p2⟩
          dsimp only at x0 x1 x2 hc1 hc2 HT
          subst hc1
          have hz2 : (p2 == 0) = false := by simpa using hc2
          have hb1 : (j + 1) * 8 ≤ 140737488355328 := by omega
          have hb2 : j + 1 ≤ maxLen := by unfold maxLen; omega
          have OW := Lib.hid (show wr.ownsRow wo.heap.size 2 1 (.slice B j cb) j (ints ((amtL qs).take j)) by have := HEV.out.own; rw [HJ.out] at this; exact this)
          have hbs : wo.heap.size ≤ wr.heap.size := HEV.out.be.size
          go_wp2_with (at_builtin; refine wpList_app E_i64 rfl (.tmp 96) (.tmp 99) rfl (n := j) (xs := ints ((amtL qs).take j)) rfl ((OW.out.alloc _).alloc _) ⟨wr.heap.size + 1, 0, none⟩ 1 1 [.int .i64 p2] rfl rfl (World.news_of_block (by have := heap_alloc_new (wr.alloc (.cells #[.int .i64 p0, .int .i64 p1, .int .i64 p2] 56)) (.cells #[.int .i64 p2] 2); simpa using this)) (one_cell _ _) hb1 hb2 (by simp; omega) (by decide) ?_; intro g cap w6 hown6 hg6 hat6; have HO := Lib.hid hown6; have HG := Lib.hid hg6; clear hown6 hg6 hat6)
          go_roundw
          case rel => exact ⟨j + 1, _, _, by go_num, rfl, by omega, by rw [HT.out]; exact HEV.out.step HJ.out HO.out HG.out⟩
          case measure => simp only [intOf]; omega
        · obtain rfl : j = k := by omega
          have HA := Lib.hid (show (amtL qs).take j = amtL qs from List.take_of_length_le (by simp [amtL, HK.out]))
          have HL := Lib.hid (show (amtL qs).length = j by simp [amtL, HK.out])
          have OW := Lib.hid (show wr.ownsRow wo.heap.size 2 1 (.slice B j cb) j (ints (amtL qs)) by have := HEV.out.own; rw [HA.out, HL.out] at this; exact this)
          have BQ := Lib.hid HEV.out.be
          clear hev
          go_wp2_with fail
          refine (sum_len B (amtL qs) cb _ _ HL.out IQ.out ((Row.of_own OW.out (by decide)).weak (Nat.zero_le _)) (by rw [HL.out]; omega) SQ.out).mono ?_
          rintro e w7 ⟨rfl, hb7⟩
          have BS := Lib.hid (BQ.out.trans (hb7.mono BQ.out.size))
          clear hb7
          go_wp2_with fail
          go_roundw
          case rel => exact ⟨.inr (.inr rfl), hbr.trans (BS.out.mono hbr.size)⟩
          case measure => simp [intOf]
    · have hE := EE1.out
      have hF := EE2.out
      rcases hE with rfl | ⟨hE, rfl⟩ <;> rcases hF with rfl | ⟨hF, rfl⟩
      all_goals
        go_wp2_with fail
        go_ret
        exact ⟨rfl, B3.out.trans (hbr.mono B3.out.size)⟩
set_option maxHeartbeats 2000000 in
set_option maxRecDepth 100000 in
theorem even_high (ct b r m : Int) (w : World) (i1 : I64 b) (i2 : I64 r) (i3 : I64 m) (h1 : 0 ≤ b) (h2 : 0 ≤ r) (h : r < b) :
    Calls Try.prog 8 #[.int .i64 ct, .int .i64 b, .int .i64 r, .int .i64 m] w fun e w' => e = .returned (.bool true) ∧ Below w.heap.size w w' := by
  have I1 := Lib.hid i1
  have I2 := Lib.hid i2
  have I3 := Lib.hid i3
  have b1 := i1.1
  have b2 := i1.2
  have b3 := i2.1
  have b4 := i2.2
  obtain ⟨ps, hp⟩ : ∃ x, chgP ct b r m 0 = x := ⟨_, rfl⟩
  obtain ⟨n, hn⟩ : ∃ x, ps.length = x := ⟨_, rfl⟩
  obtain ⟨er, he⟩ : ∃ x, chgE ct b r m 0 = x := ⟨_, rfl⟩
  obtain ⟨qs, hq⟩ : ∃ x, chgP ct b r 0 m = x := ⟨_, rfl⟩
  obtain ⟨k, hk⟩ : ∃ x, qs.length = x := ⟨_, rfl⟩
  obtain ⟨er2, he2⟩ : ∃ x, chgE ct b r 0 m = x := ⟨_, rfl⟩
  have ln : n ≤ 4 := by rw [← hn, ← hp]; exact chgP_len _ _ _ _ _
  have lk : k ≤ 4 := by rw [← hk, ← hq]; exact chgP_len _ _ _ _ _
  have pm : ∀ x ∈ ps, x.ct = ct ∧ x.amt ≠ 0 ∧ 0 ≤ x.acc ∧ x.acc ≤ 3 ∧ -9223372036854775808 < x.amt ∧ x.amt < 9223372036854775808 := fun x hx => chgP_mem i1 i2 (by rw [hp]; exact hx)
  have qm : ∀ x ∈ qs, x.ct = ct ∧ x.amt ≠ 0 ∧ 0 ≤ x.acc ∧ x.acc ≤ 3 ∧ -9223372036854775808 < x.amt ∧ x.amt < 9223372036854775808 := fun x hx => chgP_mem i1 i2 (by rw [hq]; exact hx)
  have SP := Lib.hid (show (amtL ps).sum = 0 by rw [← hp]; exact sum_chgP _ _ _ _ _)
  have SQ := Lib.hid (show (amtL qs).sum = 0 by rw [← hq]; exact sum_chgP _ _ _ _ _)
  have IP := Lib.hid (show ∀ x ∈ amtL ps, I64 x by
    intro x hx
    obtain ⟨y, hy, rfl⟩ := List.mem_map.1 hx
    obtain ⟨_, _, _, _, h5, h6⟩ := pm y hy
    exact ⟨by omega, by omega⟩)
  have IQ := Lib.hid (show ∀ x ∈ amtL qs, I64 x by
    intro x hx
    obtain ⟨y, hy, rfl⟩ := List.mem_map.1 hx
    obtain ⟨_, _, _, _, h5, h6⟩ := qm y hy
    exact ⟨by omega, by omega⟩)
  have e1 : er = 0 ∨ ((er == 0) = false ∧ n = 0) := by
    by_cases c : er = 0
    · exact .inl c
    · have : ps = [] := by rw [← hp]; exact chgP_none (by rw [he]; exact c)
      exact .inr ⟨by simpa using c, by rw [← hn, this]; rfl⟩
  have e2 : er2 = 0 ∨ ((er2 == 0) = false ∧ k = 0) := by
    by_cases c : er2 = 0
    · exact .inl c
    · have : qs = [] := by rw [← hq]; exact chgP_none (by rw [he2]; exact c)
      exact .inr ⟨by simpa using c, by rw [← hk, this]; rfl⟩
  have EE1 := Lib.hid e1
  have EE2 := Lib.hid e2
  have PM := Lib.hid pm
  have QM := Lib.hid qm
  have HP := Lib.hid hp
  have HN := Lib.hid hn
  have HE := Lib.hid he
  have HQ := Lib.hid hq
  have HK := Lib.hid hk
  have HE2 := Lib.hid he2
  clear i1 i2 i3 hp hn he hq hk he2 pm qm e1 e2
  go_enter Try.func8, Try.ntmps8
  go_wp2_with fail
  refine (awake17 _).mono ?_
  rintro e w1 ⟨rfl, hb1⟩
  have B1 := Lib.hid hb1
  clear hb1
  go_wp2_with fail
  refine (sides_any _ _ _ h1 h2 b2 b4 (b - r) 0 ?_ ?_).mono ?_
  · unfold liab; rw [if_pos (by omega)]
  · unfold asset; rw [if_neg (by omega)]
  rintro e x1 ⟨rfl, rfl⟩
  go_wp2_with fail
  refine (bill_is ct b r m _ ps n er I1.out I2.out I3.out HP.out HE.out HN.out).mono ?_
  rintro e w2 ⟨A2, c2, rfl, r2, hb2⟩
  have R2 := Lib.hid r2
  have B2 := Lib.hid (B1.out.trans (hb2.mono B1.out.size))
  clear r2 hb2
  go_wp2_with fail
  refine (earn_is ct b r m _ qs k er2 I1.out I2.out I3.out HQ.out HE2.out HK.out).mono ?_
  rintro e w3 ⟨A3, c3, rfl, r3, hb3⟩
  have R23 := Lib.hid (R2.out.below hb3)
  have R3 := Lib.hid r3
  have B3 := Lib.hid (B2.out.trans (hb3.mono B2.out.size))
  clear r3 hb3 R2
  go_wp2_with fail
  go_loopw [78] (fun i wr => (i = .int .i64 0 ∨ i = .int .i64 1 ∨ i = .int .i64 2) ∧ Below w3.heap.size w3 wr) (fun i _ => 2 - (intOf i).toNat)
  case atStart => exact ⟨.inl rfl, Below.refl _ _⟩
  case round =>
    obtain ⟨hi, hbr⟩ := hrel
    obtain ⟨wo, rfl⟩ : ∃ x, x = wr := ⟨_, rfl⟩
    have RA := Lib.hid (R23.out.below hbr)
    have RB := Lib.hid (R3.out.below hbr)
    rcases hi with rfl | rfl | rfl
    · have hix := index_two0 wo (.slice A2 n c2) (.slice A3 k c3)
      go_wp2_with fail
      clear hix
      have HNL := Lib.hid (show n ≤ 4 by omega)
      go_loopw [18, 83] (fun s i wr' => ∃ (j : Nat) (B : Option Addr) (c : Nat), i = .int .i64 (j : Int) ∧ s = .slice B j c ∧ j ≤ n ∧ EvW wo ((amtL ps).take j) (.slice B j c) wr') (fun _ i _ => n - (intOf i).toNat)
      case atStart => exact ⟨0, none, 0, rfl, rfl, Nat.zero_le _, World.ownsRow_nil _ _ _ _, Below.refl _ _⟩
      case round =>
        obtain ⟨j, B, cb, rfl, rfl, hj, hev⟩ := hrel
        have HEV := Lib.hid hev
        by_cases hlt : j < n
        · obtain ⟨ax, hax, _, x0, x1, x2⟩ := Row.post (RA.out.below hev.be) (j := j) (by rw [HN.out]; exact hlt)
          subst hax
          obtain ⟨px, hpx⟩ : ∃ p, p = ps[j]'(by rw [HN.out]; exact hlt) := ⟨_, rfl⟩
          have hmem : px ∈ ps := by rw [hpx]; exact List.getElem_mem _
          have HJ := Lib.hid (show ((amtL ps).take j).length = j by simp [amtL, HN.out]; omega)
          have HT := Lib.hid (show (amtL ps).take (j + 1) = (amtL ps).take j ++ [px.amt] by rw [hpx]; exact amt_take _)
          rw [← hpx] at x0 x1 x2
          obtain ⟨hc1, hc2, _, _, _, _⟩ := PM.out _ hmem
          clear hpx hmem hev
          rcases px with ⟨p0, p1, p2⟩
          dsimp only at x0 x1 x2 hc1 hc2 HT
          subst hc1
          have hz2 : (p2 == 0) = false := by simpa using hc2
          have hb1 : (j + 1) * 8 ≤ 140737488355328 := by omega
          have hb2 : j + 1 ≤ maxLen := by unfold maxLen; omega
          have OW := Lib.hid (show wr.ownsRow wo.heap.size 2 1 (.slice B j cb) j (ints ((amtL ps).take j)) by have := HEV.out.own; rw [HJ.out] at this; exact this)
          have hbs : wo.heap.size ≤ wr.heap.size := HEV.out.be.size
          go_wp2_with (at_builtin; refine wpList_app E_i64 rfl (.tmp 96) (.tmp 99) rfl (n := j) (xs := ints ((amtL ps).take j)) rfl ((OW.out.alloc _).alloc _) ⟨wr.heap.size + 1, 0, none⟩ 1 1 [.int .i64 p2] rfl rfl (World.news_of_block (by have := heap_alloc_new (wr.alloc (.cells #[.int .i64 p0, .int .i64 p1, .int .i64 p2] 56)) (.cells #[.int .i64 p2] 2); simpa using this)) (one_cell _ _) hb1 hb2 (by simp; omega) (by decide) ?_; intro g cap w6 hown6 hg6 hat6; have HO := Lib.hid hown6; have HG := Lib.hid hg6; clear hown6 hg6 hat6)
          go_roundw
          case rel => exact ⟨j + 1, _, _, by go_num, rfl, by omega, by rw [HT.out]; exact HEV.out.step HJ.out HO.out HG.out⟩
          case measure => simp only [intOf]; omega
        · obtain rfl : j = n := by omega
          have HA := Lib.hid (show (amtL ps).take j = amtL ps from List.take_of_length_le (by simp [amtL, HN.out]))
          have HL := Lib.hid (show (amtL ps).length = j by simp [amtL, HN.out])
          have OW := Lib.hid (show wr.ownsRow wo.heap.size 2 1 (.slice B j cb) j (ints (amtL ps)) by have := HEV.out.own; rw [HA.out, HL.out] at this; exact this)
          have BQ := Lib.hid HEV.out.be
          clear hev
          go_wp2_with fail
          refine (sum_len B (amtL ps) cb _ _ HL.out IP.out ((Row.of_own OW.out (by decide)).weak (Nat.zero_le _)) (by rw [HL.out]; omega) SP.out).mono ?_
          rintro e w7 ⟨rfl, hb7⟩
          have BS := Lib.hid (BQ.out.trans (hb7.mono BQ.out.size))
          clear hb7
          go_wp2_with fail
          go_roundw
          case rel => exact ⟨.inr (.inl rfl), hbr.trans (BS.out.mono hbr.size)⟩
          case measure => simp [intOf]
    · have hix := index_two1 wo (.slice A2 n c2) (.slice A3 k c3)
      go_wp2_with fail
      clear hix
      have HNL := Lib.hid (show k ≤ 4 by omega)
      go_loopw [18, 83] (fun s i wr' => ∃ (j : Nat) (B : Option Addr) (c : Nat), i = .int .i64 (j : Int) ∧ s = .slice B j c ∧ j ≤ k ∧ EvW wo ((amtL qs).take j) (.slice B j c) wr') (fun _ i _ => k - (intOf i).toNat)
      case atStart => exact ⟨0, none, 0, rfl, rfl, Nat.zero_le _, World.ownsRow_nil _ _ _ _, Below.refl _ _⟩
      case round =>
        obtain ⟨j, B, cb, rfl, rfl, hj, hev⟩ := hrel
        have HEV := Lib.hid hev
        by_cases hlt : j < k
        · obtain ⟨ax, hax, _, x0, x1, x2⟩ := Row.post (RB.out.below hev.be) (j := j) (by rw [HK.out]; exact hlt)
          subst hax
          obtain ⟨px, hpx⟩ : ∃ p, p = qs[j]'(by rw [HK.out]; exact hlt) := ⟨_, rfl⟩
          have hmem : px ∈ qs := by rw [hpx]; exact List.getElem_mem _
          have HJ := Lib.hid (show ((amtL qs).take j).length = j by simp [amtL, HK.out]; omega)
          have HT := Lib.hid (show (amtL qs).take (j + 1) = (amtL qs).take j ++ [px.amt] by rw [hpx]; exact amt_take _)
          rw [← hpx] at x0 x1 x2
          obtain ⟨hc1, hc2, _, _, _, _⟩ := QM.out _ hmem
          clear hpx hmem hev
          rcases px with ⟨p0, p1, p2⟩
          dsimp only at x0 x1 x2 hc1 hc2 HT
          subst hc1
          have hz2 : (p2 == 0) = false := by simpa using hc2
          have hb1 : (j + 1) * 8 ≤ 140737488355328 := by omega
          have hb2 : j + 1 ≤ maxLen := by unfold maxLen; omega
          have OW := Lib.hid (show wr.ownsRow wo.heap.size 2 1 (.slice B j cb) j (ints ((amtL qs).take j)) by have := HEV.out.own; rw [HJ.out] at this; exact this)
          have hbs : wo.heap.size ≤ wr.heap.size := HEV.out.be.size
          go_wp2_with (at_builtin; refine wpList_app E_i64 rfl (.tmp 96) (.tmp 99) rfl (n := j) (xs := ints ((amtL qs).take j)) rfl ((OW.out.alloc _).alloc _) ⟨wr.heap.size + 1, 0, none⟩ 1 1 [.int .i64 p2] rfl rfl (World.news_of_block (by have := heap_alloc_new (wr.alloc (.cells #[.int .i64 p0, .int .i64 p1, .int .i64 p2] 56)) (.cells #[.int .i64 p2] 2); simpa using this)) (one_cell _ _) hb1 hb2 (by simp; omega) (by decide) ?_; intro g cap w6 hown6 hg6 hat6; have HO := Lib.hid hown6; have HG := Lib.hid hg6; clear hown6 hg6 hat6)
          go_roundw
          case rel => exact ⟨j + 1, _, _, by go_num, rfl, by omega, by rw [HT.out]; exact HEV.out.step HJ.out HO.out HG.out⟩
          case measure => simp only [intOf]; omega
        · obtain rfl : j = k := by omega
          have HA := Lib.hid (show (amtL qs).take j = amtL qs from List.take_of_length_le (by simp [amtL, HK.out]))
          have HL := Lib.hid (show (amtL qs).length = j by simp [amtL, HK.out])
          have OW := Lib.hid (show wr.ownsRow wo.heap.size 2 1 (.slice B j cb) j (ints (amtL qs)) by have := HEV.out.own; rw [HA.out, HL.out] at this; exact this)
          have BQ := Lib.hid HEV.out.be
          clear hev
          go_wp2_with fail
          refine (sum_len B (amtL qs) cb _ _ HL.out IQ.out ((Row.of_own OW.out (by decide)).weak (Nat.zero_le _)) (by rw [HL.out]; omega) SQ.out).mono ?_
          rintro e w7 ⟨rfl, hb7⟩
          have BS := Lib.hid (BQ.out.trans (hb7.mono BQ.out.size))
          clear hb7
          go_wp2_with fail
          go_roundw
          case rel => exact ⟨.inr (.inr rfl), hbr.trans (BS.out.mono hbr.size)⟩
          case measure => simp [intOf]
    · have hE := EE1.out
      have hF := EE2.out
      rcases hE with rfl | ⟨hE, rfl⟩ <;> rcases hF with rfl | ⟨hF, rfl⟩
      all_goals
        go_wp2_with fail
        go_ret
        exact ⟨rfl, B3.out.trans (hbr.mono B3.out.size)⟩
theorem even_walk (ct b r m : Int) (w : World) (h0 : I64 ct) (i1 : I64 b) (i2 : I64 r) (i3 : I64 m) :
    Calls Try.prog 8 #[.int .i64 ct, .int .i64 b, .int .i64 r, .int .i64 m] w fun e w' => e = .returned (.bool true) ∧ Below w.heap.size w w' := by
  by_cases h : b < 0 ∨ r < 0
  · exact even_bad ct b r m w i1 i2 i3 h
  · by_cases h2 : r < b
    · exact even_high ct b r m w i1 i2 i3 (by omega) (by omega) h2
    · exact even_low ct b r m w i1 i2 i3 (by omega) (by omega) (by omega)
end Go.Proofs.Ytdapcahphaldjaa.Net
