/- The walks of consider: Likely and Mean, at any arguments. -/
import Derived.Test.YtejkamgidhpcjaaConsiderB
namespace Go.Proofs.Ytejkamgidhpcjaa.CO
open Go.RowKit Go.Proofs.Ytejkamgidhpcjaa.Cents
set_option linter.unusedVariables false
set_option linter.unusedSimpArgs false

theorem likely_bad (f b : Int) (A : Option Addr) (xs : List Mb) (c : Nat) (w : World) (hr : Row w 0 A (mcells xs)) (hl : xs.length * 16 ≤ 140737488351232) (e0 : Int) (h0 : checkE f xs b = e0) (hne : e0 ≠ 0) :
    Calls Try.prog 12 #[.int .i64 f, .slice A xs.length c, .int .i64 b] w fun e w' => e = .returned (.tuple #[.int .i64 0, .int .i64 e0]) ∧ Below w.heap.size w w' := by
  have HC := Lib.hid (check_any f b A xs c w hr hl e0 h0)
  have hb : (e0 != 0) = true := by simpa using hne
  generalize xs.length = n at *
  clear hr h0 hne
  go_enter Try.func12, Try.ntmps12
  go_wp2_with fail
  refine HC.out.mono ?_
  rintro e w1 ⟨rfl, hb1⟩
  have HB := Lib.hid hb1
  clear hb1
  go_wp2_with fail
  go_ret2
  exact ⟨rfl, HB.out⟩
theorem mean_bad (f : Int) (A : Option Addr) (xs : List Mb) (c : Nat) (w : World) (hr : Row w 0 A (mcells xs)) (hl : xs.length * 16 ≤ 140737488351232) (e0 : Int) (h0 : checkE f xs 0 = e0) (hne : e0 ≠ 0) :
    Calls Try.prog 14 #[.int .i64 f, .slice A xs.length c] w fun e w' => e = .returned (.tuple #[.int .i64 0, .int .i64 e0]) ∧ Below w.heap.size w w' := by
  have HC := Lib.hid (check_any f 0 A xs c w hr hl e0 h0)
  have hb : (e0 != 0) = true := by simpa using hne
  generalize xs.length = n at *
  clear hr h0 hne
  go_enter Try.func14, Try.ntmps14
  go_wp2_with fail
  refine HC.out.mono ?_
  rintro e w1 ⟨rfl, hb1⟩
  have HB := Lib.hid hb1
  clear hb1
  go_wp2_with fail
  go_ret2
  exact ⟨rfl, HB.out⟩
theorem check_range (f : Int) (l : List Mb) (b : Int) : checkE f l b = 0 ∨ checkE f l b = 1 ∨ checkE f l b = 4 := by
  unfold checkE
  split
  · exact .inr (.inr rfl)
  · split
    · exact .inr (.inl rfl)
    · exact .inl rfl
/-- What Likely answers. -/
theorem likely_any (f b : Int) (A : Option Addr) (xs : List Mb) (c : Nat) (w : World) (hr : Row w 0 A (mcells xs)) (hi : ∀ m ∈ xs, Mb.I m) (hf : I64 f) (hl : xs.length * 16 ≤ 140737488351232) (x y : Int) (hp : likelyN f xs b = x ∧ likelyE f xs b = y) :
    Calls Try.prog 12 #[.int .i64 f, .slice A xs.length c, .int .i64 b] w fun e w' => e = .returned (.tuple #[.int .i64 x, .int .i64 y]) ∧ Below w.heap.size w w' := by
  unfold likelyN likelyE at hp
  by_cases h : checkE f xs b = 0
  · rw [if_pos h, if_pos h] at hp
    exact likely_ok f b A xs c w hr hi hf hl h x y hp
  · rw [if_neg h, if_neg h] at hp
    rw [← hp.1]
    exact likely_bad f b A xs c w hr hl y hp.2 (by rw [← hp.2]; exact h)

set_option maxHeartbeats 2000000 in
set_option maxRecDepth 100000 in
theorem mean_ok (f : Int) (A : Option Addr) (xs : List Mb) (c : Nat) (w : World) (hr : Row w 0 A (mcells xs)) (hi : ∀ m ∈ xs, Mb.I m) (hf : I64 f) (hl : xs.length * 16 ≤ 140737488351232) (h0 : checkE f xs 0 = 0) (x y : Int) (hp : priceN (meanS f xs) = x ∧ priceE (meanS f xs) = y) :
    Calls Try.prog 14 #[.int .i64 f, .slice A xs.length c] w fun e w' => e = .returned (.tuple #[.int .i64 x, .int .i64 y]) ∧ Below w.heap.size w w' := by
  have HC := Lib.hid (check_any f 0 A xs c w hr hl 0 h0)
  obtain ⟨hl32, hf0, hb0, hb1, hch⟩ := check_ok h0
  have HR := Lib.hid hr
  have HI := Lib.hid hi
  have HF := Lib.hid hf
  have HP := Lib.hid hp
  have HCH := Lib.hid hch
  obtain ⟨n, hn⟩ : ∃ n, xs.length = n := ⟨_, rfl⟩
  rw [hn] at hl hl32 HC ⊢
  have HN := Lib.hid hn
  clear hr hi hf hp hch hn h0
  go_enter Try.func14, Try.ntmps14
  go_wp2_with fail
  refine HC.out.mono ?_
  rintro e w1 ⟨rfl, hb⟩
  have HB := Lib.hid hb
  clear hb
  go_wp2_with fail
  have HS := Lib.hid (AllW.start f HB.out)
  go_loopw [7, 8, 25] (fun v r i wr => ∃ (k u : Nat) (B : Option Addr) (cb : Nat) (rs : Int), v = .slice B u cb ∧ r = .int .i64 rs ∧ i = .int .i64 (k : Int) ∧ k ≤ n ∧ u = k + 1 ∧ rs = rests (xs.take k) ∧ AllW w (f :: parts (xs.take k)) v wr) (fun _ _ i _ => n - (intOf i).toNat)
  case atStart => exact ⟨0, 1, _, 1, 0, rfl, rfl, rfl, by omega, rfl, by simp [rests], by simpa [parts] using HS.out⟩
  case round =>
    obtain ⟨k, u, B, cb, rs, rfl, rfl, rfl, hk, rfl, hrs, hs⟩ := hrel
    have hrr := rests_range (xs.take k)
    rw [← hrs, List.length_take, HN.out] at hrr
    obtain ⟨hr0, hr1⟩ := hrr
    have hpl : (f :: parts (xs.take k)).length = k + 1 := by simp [parts, HN.out]; omega
    have HPL := Lib.hid hpl
    clear hpl
    by_cases hlt : k < n
    · obtain ⟨ad, rfl, c0, c1⟩ := mb_cells (HR.out.below hs.be) (j := k) (by rw [HN.out]; exact hlt)
      obtain ⟨m, hm⟩ : ∃ m, m = xs[k]'(by rw [HN.out]; exact hlt) := ⟨_, rfl⟩
      have hmi : m.I := by rw [hm]; exact HI.out _ (List.getElem_mem _)
      have hmc := HCH.out m (by rw [hm]; exact List.getElem_mem _)
      have htk : xs.take (k + 1) = xs.take k ++ [m] := by rw [List.take_succ_eq_append_getElem (by rw [HN.out]; exact hlt), ← hm]
      rw [← hm] at c0 c1
      obtain ⟨a, ch⟩ := m
      dsimp only at c0 c1 hmc
      have HT := Lib.hid htk
      have HSS := Lib.hid hs
      have HRS := Lib.hid hrs
      have HIA := Lib.hid hmi.1
      have HIC := Lib.hid hmi.2
      obtain ⟨hc0, hc1⟩ := hmc
      obtain ⟨q, hq⟩ : ∃ q, a * ch / 10000 = q := ⟨_, rfl⟩
      obtain ⟨r, hr⟩ : ∃ r, a * ch % 10000 = r := ⟨_, rfl⟩
      have HQ := Lib.hid (show partN a ch 10000 = q ∧ partE a ch 10000 = 0 by have := part_ok (a := a) (p := ch) (m := 10000) hmi.1 (by omega) hc0 hc1; rw [hq] at this; exact this)
      have HRR := Lib.hid (show restN a ch 10000 = r ∧ restE a ch 10000 = 0 by have := rest_ok (a := a) (p := ch) (m := 10000) (by omega) hc0; rw [hr] at this; exact this)
      have hr2 : 0 ≤ r ∧ r < 10000 := by rw [← hr]; exact ⟨Int.emod_nonneg _ (by omega), Int.emod_lt_of_pos _ (by omega)⟩
      obtain ⟨hr2, hr3⟩ := hr2
      have HQ0 := Lib.hid hq
      have HR0 := Lib.hid hr
      have g0 : (0 : Int) ≤ (k : Int) := Int.natCast_nonneg _
      have g1 : (k : Int) < (n : Int) := by omega
      have hb1' : (k + 1 + 1) * 8 ≤ 140737488355328 := by omega
      have hb2' : k + 1 + 1 ≤ maxLen := by unfold maxLen; omega
      have HM1 := Lib.hid (show I64 10000 from ⟨by decide, by decide⟩)
      clear htk hs hrs hm hmi hq hr
      go_wp2_with fail
      refine (part_is a ch 10000 q 0 _ HIA.out HIC.out HM1.out HQ.out).mono ?_
      rintro e w2 ⟨rfl, hq2⟩
      have hbx := (Blk.new wr 26 #[.int .i64 a, .int .i64 ch]).below hq2.below (by simp)
      have HSS := Lib.hid ((HSS.out.later (alloc1 wr (.cells #[.int .i64 a, .int .i64 ch] 26))).later hq2.below)
      have d0 : w2.cell? ⟨wr.heap.size, 0, none⟩ = some (.int .i64 a) := hbx.cell 0
      have d1 : w2.cell? ⟨wr.heap.size, 1, none⟩ = some (.int .i64 ch) := hbx.cell 1
      clear hbx hq2
      go_wp2_with fail
      refine (rest_is a ch 10000 r 0 _ HIA.out HIC.out HM1.out HRR.out).mono ?_
      rintro e w3 ⟨rfl, hq3⟩
      have HSS := Lib.hid (HSS.out.later hq3.below)
      have OW := Lib.hid (show w3.ownsRow w.heap.size 2 1 (.slice B (k + 1) cb) (k + 1) (ints (f :: parts (xs.take k))) by have := HSS.out.own; rw [HPL.out] at this; exact this)
      have hsz : w.heap.size ≤ w3.heap.size := HSS.out.be.size
      clear hq3 d0 d1
      go_wp2_with (at_builtin; refine wpList_app E_i64 rfl (.tmp 45) (.tmp 47) rfl rfl (OW.out.alloc _) ⟨w3.heap.size, 0, none⟩ 1 1 [.int .i64 q] rfl rfl (cell_one_new _ _ _) (one_cell _ _) hb1' hb2' (by simp; omega) (by decide) ?_; intro g cap w4 hown4 hg4 hat4; have HO4 := Lib.hid hown4; have HG4 := Lib.hid hg4; clear hown4 hg4 hat4)
      go_roundw
      case rel =>
        refine ⟨k + 1, k + 1 + 1, _, _, rs + r, rfl, by go_num, by go_num, by omega, rfl, ?_, ?_⟩
        · rw [HT.out, rests_snoc, HRS.out, HR0.out]
        · rw [HT.out, parts_snoc, HQ0.out, show f :: (parts (xs.take k) ++ [q]) = (f :: parts (xs.take k)) ++ [q] by simp]
          exact HSS.out.step (by rw [HPL.out]; exact HO4.out) (by have := HG4.out; exact this)
      case measure => simp only [intOf]; omega
    · obtain rfl : k = n := by omega
      have htk : xs.take k = xs := List.take_of_length_le (by rw [HN.out]; omega)
      rw [htk] at hrs hs HPL
      have HSS := Lib.hid hs
      have OW := Lib.hid (show wr.ownsRow w.heap.size 2 1 (.slice B (k + 1) cb) (k + 1) (ints (f :: parts xs)) by have := hs.own; rw [HPL.out] at this; exact this)
      have hsz : w.heap.size ≤ wr.heap.size := hs.be.size
      obtain ⟨z, hz⟩ : ∃ z, rs / 10000 = z := ⟨_, rfl⟩
      have HZ := Lib.hid hz
      have HRS := Lib.hid hrs
      have hz0 : 0 ≤ z ∧ z ≤ 40 := by rw [← hz]; omega
      have hb1' : (k + 1 + 1) * 8 ≤ 140737488355328 := by omega
      have hb2' : k + 1 + 1 ≤ maxLen := by unfold maxLen; omega
      clear hs hrs htk hz
      go_wp2_with (at_builtin; refine wpList_app E_i64 rfl (.tmp 53) (.tmp 56) rfl rfl (OW.out.alloc _) ⟨wr.heap.size, 0, none⟩ 1 1 [.int .i64 (rs / 10000)] rfl rfl (cell_one_new _ _ _) (one_cell _ _) hb1' hb2' (by simp; omega) (by decide) ?_; intro g cap w4 hown4 hg4 hat4; have HO4 := Lib.hid hown4; have HG4 := Lib.hid hg4; clear hown4 hg4 hat4)
      have hst := HSS.out.step (x := rs / 10000) (by rw [HPL.out]; exact HO4.out) (by have := HG4.out; exact this)
      have hlen : ((f :: parts xs) ++ [rs / 10000]).length = k + 1 + 1 := by rw [List.length_append, HPL.out]; rfl
      have hst2 : AllW w ((f :: parts xs) ++ [rs / 10000]) (.slice (some ⟨g, 0, none⟩) ((f :: parts xs) ++ [rs / 10000]).length cap) w4 := by rw [hlen]; exact hst
      have hsum : ((f :: parts xs) ++ [rs / 10000]).sum = meanS f xs := by
        rw [mean_is, HRS.out, List.sum_append, List.sum_cons]; simp
      have HPR := Lib.hid (price_any (some ⟨g, 0, none⟩) ((f :: parts xs) ++ [rs / 10000]) cap w4 (by
        intro t ht
        rcases List.mem_append.1 ht with ht | ht
        · rcases List.mem_cons.1 ht with ht | ht
          · rw [ht]; exact HF.out
          · unfold parts at ht
            rw [List.mem_map] at ht
            obtain ⟨m, hm, rfl⟩ := ht
            have := HCH.out m hm
            exact part_in (HI.out m hm).1 (by omega) this.1 this.2
        · have : t = rs / 10000 := by simpa using ht
          rw [this, HZ.out]; exact ⟨by omega, by omega⟩) hst2.row (by rw [hlen]; omega) x y (by rw [hsum]; exact HP.out))
      have HPR2 := Lib.hid (show Calls Try.prog 28 #[.slice (some ⟨g, 0, none⟩) (k + 1 + 1) cap] w4 _ by have := HPR.out; rw [hlen] at this; exact this)
      have HBE := Lib.hid hst.be
      clear hst hst2 hlen hsum
      refine HPR2.out.mono ?_
      rintro e w2 ⟨rfl, hb⟩
      have HB2 := Lib.hid (HBE.out.trans (hb.mono HBE.out.size))
      clear hb
      go_wp2_with fail
      go_ret2
      exact ⟨rfl, HB2.out⟩
/-- What Mean answers. -/
theorem mean_any (f : Int) (A : Option Addr) (xs : List Mb) (c : Nat) (w : World) (hr : Row w 0 A (mcells xs)) (hi : ∀ m ∈ xs, Mb.I m) (hf : I64 f) (hl : xs.length * 16 ≤ 140737488351232) (x y : Int) (hp : meanN f xs = x ∧ meanE f xs = y) :
    Calls Try.prog 14 #[.int .i64 f, .slice A xs.length c] w fun e w' => e = .returned (.tuple #[.int .i64 x, .int .i64 y]) ∧ Below w.heap.size w w' := by
  unfold meanN meanE at hp
  by_cases h : checkE f xs 0 = 0
  · rw [if_pos h, if_pos h] at hp
    exact mean_ok f A xs c w hr hi hf hl h x y hp
  · rw [if_neg h, if_neg h] at hp
    rw [← hp.1]
    exact mean_bad f A xs c w hr hl y hp.2 (by rw [← hp.2]; exact h)
end Go.Proofs.Ytejkamgidhpcjaa.CO
