/- The walks of the reference of consider. -/
import Derived.Test.YtejkamgidhpcjaaConsiderC
import Derived.Test.YtejkamgidhpcjaaAcc
namespace Go.Proofs.Ytejkamgidhpcjaa.CO
open Go.RowKit Go.Proofs.Ytejkamgidhpcjaa.Cents Go.Proofs.Ytejkamgidhpcjaa.Exact
set_option linter.unusedVariables false
set_option linter.unusedSimpArgs false

set_option maxHeartbeats 1000000 in
set_option maxRecDepth 100000 in
theorem rwrong_any (f b : Int) (A : Option Addr) (xs : List Mb) (c : Nat) (w : World) (hr : Row w 0 A (mcells xs)) (hl : xs.length ≤ 1000000) (e0 : Int) (he : checkE f xs b = e0) :
    Calls Try.prog 29 #[.int .i64 f, .slice A xs.length c, .int .i64 b] w fun e w' => e = .returned (.int .i64 e0) ∧ w = w' := by
  have HR := Lib.hid hr
  obtain ⟨n, hn⟩ : ∃ n, xs.length = n := ⟨_, rfl⟩
  unfold checkE at he
  rw [hn] at he hl ⊢
  have HN := Lib.hid hn
  clear hr hn
  by_cases h1 : 32 < n
  · rw [if_pos h1] at he
    have HE := Lib.hid he
    have h2 : decide ((32 : Int) < (n : Int)) = true := by simp; omega
    clear he h1
    go_enter Try.func29, Try.ntmps29
    go_wp2_with fail
    go_ret
    exact ⟨by rw [← HE.out]; rfl, rfl⟩
  · rw [if_neg h1] at he
    have h2 : decide ((32 : Int) < (n : Int)) = false := by simp; omega
    by_cases h3 : f < 0 ∨ b < 0 ∨ 10000 < b
    · rw [if_pos (by omega)] at he
      have HE := Lib.hid he
      clear he h1
      have hcs : f < 0 ∨ (0 ≤ f ∧ b < 0) ∨ (0 ≤ f ∧ 0 ≤ b ∧ 10000 < b) := by omega
      clear h3
      rcases hcs with h4 | ⟨h4, h5⟩ | ⟨h4, h5, h6⟩
      all_goals
        go_enter Try.func29, Try.ntmps29
        go_wp2_with fail
        go_ret
        exact ⟨by rw [← HE.out]; rfl, rfl⟩
    · have hf0 : 0 ≤ f := by omega
      have hb0 : 0 ≤ b := by omega
      have hb1 : b ≤ 10000 := by omega
      have he2 : (if anyW xs = true then (1 : Int) else 0) = e0 := by
        rw [← he]
        by_cases hany : anyW xs = true
        · rw [if_pos hany, if_pos (.inr (.inr (.inr hany)))]
        · rw [if_neg hany, if_neg (by intro h; rcases h with h | h | h | h <;> first | omega | exact hany h)]
      have HE := Lib.hid he2
      clear he he2 h1 h3
      go_enter Try.func29, Try.ntmps29
      go_wp2_with fail
      go_loop [7] (fun v => ∃ (k : Nat), v = .int .i64 (k : Int) ∧ k ≤ n ∧ anyW (xs.take k) = false) (fun v => n - (intOf v).toNat)
      case atStart => exact ⟨0, rfl, by omega, by simp [anyW]⟩
      case round =>
        obtain ⟨k, rfl, hk, hany⟩ := hrel
        by_cases hlt : k < n
        · obtain ⟨ad, rfl, c0, c1⟩ := mb_cells HR.out (j := k) (by rw [HN.out]; exact hlt)
          have hta := take_any (xs := xs) (j := k) (by rw [HN.out]; exact hlt)
          obtain ⟨m, hm⟩ : ∃ m, m = xs[k]'(by rw [HN.out]; exact hlt) := ⟨_, rfl⟩
          rw [← hm] at c0 c1 hta
          obtain ⟨a, ch⟩ := m
          dsimp only at c0 c1
          rw [hany, Bool.false_or] at hta
          have HT := Lib.hid hta
          have HM := Lib.hid hm
          have g0 : (0 : Int) ≤ (k : Int) := Int.natCast_nonneg _
          have g1 : (k : Int) < (n : Int) := by omega
          clear hany hta hm
          have hbad : Mb.bad ⟨a, ch⟩ = true → e0 = 1 := fun hb => by
            have hx : anyW xs = true := by
              unfold anyW
              rw [List.any_eq_true]
              exact ⟨_, List.getElem_mem (by rw [HN.out]; exact hlt), by rw [← HM.out]; exact hb⟩
            rw [← HE.out, if_pos hx]
          have HBD := Lib.hid hbad
          clear hbad
          by_cases h1 : ch < 0
          · have HX := Lib.hid (HBD.out (by simp [Mb.bad]; omega))
            go_wp2_with fail
            go_ret
            exact ⟨by rw [HX.out]; rfl, rfl⟩
          · by_cases h3 : 10000 < ch
            · have HX := Lib.hid (HBD.out (by simp [Mb.bad]; omega))
              have h4 : 0 ≤ ch := by omega
              clear h1
              go_wp2_with fail
              go_ret
              exact ⟨by rw [HX.out]; rfl, rfl⟩
            · have h4 : 0 ≤ ch := by omega
              have h5 : ch ≤ 10000 := by omega
              clear h1 h3
              go_wp2_with fail
              go_round
              case rel => exact ⟨k + 1, by go_num, by omega, by rw [HT.out]; simp [Mb.bad]; omega⟩
              case measure => simp [intOf]; omega
        · obtain rfl : k = n := by omega
          have HF := Lib.hid (show anyW xs = false by rw [← hany, List.take_of_length_le (by rw [HN.out]; omega)])
          clear hany
          go_wp2_with fail
          go_ret
          exact ⟨by rw [← HE.out, HF.out]; rfl, rfl⟩

set_option maxHeartbeats 1000000 in
set_option maxRecDepth 100000 in
theorem rprice_any (v : Value) (s : Int) (k : Nat) (w : World) (h : Ex w (fun _ => True) v s k) (hk : k ≤ 90000) (hk7 : 7 ≤ k) (x y : Int) (hp : priceN s = x ∧ priceE s = y) :
    Calls Try.prog 32 #[v] w fun e w' => e = .returned (.tuple #[.int .i64 x, .int .i64 y]) ∧ Below w.heap.size w w' := by
  unfold priceN priceE at hp
  have HS := Lib.hid (fun (W : World) (hb : Below w.heap.size w W) u v' (h' : fitN s = u ∧ fitE s = v') => fit_was v s k W (h.below hb) hk hk7 u v' h')
  obtain ⟨⟨vs, vE, vl, vc⟩, rfl⟩ := h.xv
  have B1 := Lib.hid (Below.alloc1 w (.cells #[.int .i64 vs, .slice vE vl vc] 54))
  try dsimp only [XV.val] at HS ⊢
  by_cases hi : I64 s
  · rw [if_pos hi, if_pos hi] at hp
    have HSS := Lib.hid (HS.out _ B1.out s 0 (by unfold fitN fitE; rw [if_pos hi, if_pos hi]; exact ⟨rfl, rfl⟩))
    clear h
    by_cases hn : s < 0
    · rw [if_pos hn, if_pos hn] at hp
      have HP := Lib.hid hp
      clear hp hi
      go_enter Try.func32, Try.ntmps32
      go_wp2_with fail
      refine HSS.out.mono ?_
      rintro e w1 ⟨rfl, hb⟩
      have HB := Lib.hid (B1.out.trans (hb.mono B1.out.size))
      clear hb
      go_wp2_with fail
      go_ret2
      exact ⟨by rw [← HP.out.1, ← HP.out.2]; rfl, HB.out⟩
    · rw [if_neg hn, if_neg hn] at hp
      have HP := Lib.hid hp
      clear hp hi
      go_enter Try.func32, Try.ntmps32
      go_wp2_with fail
      refine HSS.out.mono ?_
      rintro e w1 ⟨rfl, hb⟩
      have HB := Lib.hid (B1.out.trans (hb.mono B1.out.size))
      clear hb
      go_wp2_with fail
      go_ret2
      exact ⟨by rw [← HP.out.1, ← HP.out.2]; rfl, HB.out⟩
  · rw [if_neg hi, if_neg hi] at hp
    have HSS := Lib.hid (HS.out _ B1.out 0 3 (by unfold fitN fitE; rw [if_neg hi, if_neg hi]; exact ⟨rfl, rfl⟩))
    have HP := Lib.hid hp
    clear h hp hi
    go_enter Try.func32, Try.ntmps32
    go_wp2_with fail
    refine HSS.out.mono ?_
    rintro e w1 ⟨rfl, hb⟩
    have HB := Lib.hid (B1.out.trans (hb.mono B1.out.size))
    clear hb
    go_wp2_with fail
    go_ret2
    exact ⟨by rw [← HP.out.1, ← HP.out.2]; rfl, HB.out⟩

set_option maxHeartbeats 2000000 in
set_option maxRecDepth 100000 in
theorem rlikely_ok (f b : Int) (A : Option Addr) (xs : List Mb) (c : Nat) (w : World) (hr : Row w 0 A (mcells xs)) (hi : ∀ m ∈ xs, Mb.I m) (hf : I64 f) (h0 : checkE f xs b = 0) (x y : Int) (hp : priceN (likelyS f xs b) = x ∧ priceE (likelyS f xs b) = y) :
    Calls Try.prog 13 #[.int .i64 f, .slice A xs.length c, .int .i64 b] w fun e w' => e = .returned (.tuple #[.int .i64 x, .int .i64 y]) ∧ Below w.heap.size w w' := by
  obtain ⟨hl32, hf0, hb0, hb1, hch⟩ := check_ok h0
  have HC := Lib.hid (rwrong_any f b A xs c w hr (by omega) 0 h0)
  have HR := Lib.hid hr
  have HI := Lib.hid hi
  have HF := Lib.hid hf
  have HP := Lib.hid hp
  have HCH := Lib.hid hch
  obtain ⟨n, hn⟩ : ∃ n, xs.length = n := ⟨_, rfl⟩
  rw [hn] at hl32 HC ⊢
  have HN := Lib.hid hn
  clear hr hi hf hp hch hn h0
  go_enter Try.func13, Try.ntmps13
  go_wp2_with fail
  refine HC.out.mono ?_
  rintro e w1 ⟨rfl, rfl⟩
  go_wp2_with fail
  refine (of_any (fun _ => True) f _ (fun _ _ => trivial) HF.out).mono ?_
  rintro e w2 ⟨v2, rfl, hx2, hb2⟩
  obtain ⟨⟨s2, E2, l2, c2⟩, rfl⟩ := hx2.xv
  have HA := Lib.hid (AccW.start w w2 ⟨s2, E2, l2, c2⟩ f 7 hb2 hx2)
  try dsimp only [XV.val]
  obtain ⟨Q, hQ⟩ : ∃ Q, Q = w2.heap.size := ⟨_, rfl⟩
  clear hx2 hb2
  go_wp2_with fail
  rw [← hQ] at HA ⊢
  generalize (w2.alloc (.cells #[.int .i64 s2, .slice E2 l2 c2] 54)) = W at HA ⊢
  clear hQ HC
  go_loopw [10] (fun v wr => ∃ (k : Nat) (x : XV), v = .int .i64 (k : Int) ∧ k ≤ n ∧ AccW w Q x (likelyS f (xs.take k) b) (7 + k) wr) (fun v _ => n - (intOf v).toNat)
  case atStart => exact ⟨0, _, rfl, by omega, by simpa [likelyS, sures] using HA.out⟩
  case round =>
    clear HA
    obtain ⟨k, ⟨sx, X, nx, cx⟩, rfl, hk, ha⟩ := hrel
    have HA := Lib.hid ha
    have a1 : wr.cell? ⟨Q, 0, none⟩ = some (.int .i64 sx) := ha.bx.cell 0
    have a2 : wr.cell? ⟨Q, 1, none⟩ = some (.slice X nx cx) := ha.bx.cell 1
    clear ha
    by_cases hlt : k < n
    · obtain ⟨ad, rfl, c0, c1⟩ := mb_cells (HR.out.below HA.out.be) (j := k) (by rw [HN.out]; exact hlt)
      obtain ⟨m, hm⟩ : ∃ m, m = xs[k]'(by rw [HN.out]; exact hlt) := ⟨_, rfl⟩
      have hmi : m.I := by rw [hm]; exact HI.out _ (List.getElem_mem _)
      have hmc := HCH.out m (by rw [hm]; exact List.getElem_mem _)
      have hts : likelyS f (xs.take (k + 1)) b = if m.sure b = true then likelyS f (xs.take k) b + m.a else likelyS f (xs.take k) b := by
        unfold likelyS
        rw [List.take_succ_eq_append_getElem (by rw [HN.out]; exact hlt), sures_snoc, ← hm]
        by_cases h : m.sure b = true
        · rw [if_pos h, if_pos h, List.sum_append]; simp; omega
        · rw [if_neg h, if_neg h]
      rw [← hm] at c0 c1
      obtain ⟨a, ch⟩ := m
      dsimp only at c0 c1 hts hmc
      obtain ⟨hc0, hc1⟩ := hmc
      have HT := Lib.hid hts
      have HIA := Lib.hid hmi.1
      have g0 : (0 : Int) ≤ (k : Int) := Int.natCast_nonneg _
      have g1 : (k : Int) < (n : Int) := by omega
      have hbl : (ad.add (k * 2)).block < wr.heap.size := cell_lt c0
      generalize likelyS f (xs.take k) b = s at HA HT
      clear hts hm hmi
      cases hsr : Mb.sure ⟨a, ch⟩ b with
      | true =>
        rw [hsr, if_pos rfl] at HT
        have hcs : (0 ≤ a ∧ b ≤ ch) ∨ (a < 0 ∧ 10000 < ch + b) := by
          unfold Mb.sure at hsr
          by_cases h : a < 0
          · rw [if_pos h] at hsr; simp at hsr; omega
          · rw [if_neg h] at hsr; simp at hsr; omega
        clear hsr
        rcases hcs with ⟨k1, k2⟩ | ⟨k1, k2⟩
        all_goals
          go_wp2_with fail
          go_region_with
            (first
              | (go_at_call 30; refine (of_any (fun q => q ≠ Q) a _ ?_ HIA.out).mono ?_; exact HA.out.drew.new; rintro e w3 ⟨v3, rfl, hx3, hb3⟩; have HA3 := Lib.hid (HA.out.drew.later hb3); have HX3 := Lib.hid hx3; clear hx3 hb3; have b1 : w3.cell? ⟨Q, 0, none⟩ = some (.int .i64 sx) := HA3.out.bx.cell 0; have b2 : w3.cell? ⟨Q, 1, none⟩ = some (.slice X nx cx) := HA3.out.bx.cell 1)
              | (go_at_call 31; refine (plus_any (fun q => q ≠ Q) _ _ s a (7 + k) _ ?_ ?_ ?_ (by omega)).mono ?_; exact HA3.out.new; exact HA3.out.ex; exact HX3.out.more (by omega); rintro e w4 ⟨v4, rfl, hx4, hb4⟩; obtain ⟨⟨s4, E4, l4, c4⟩, rfl⟩ := hx4.xv; have HA4 := Lib.hid (HA3.out.later hb4); have HX4 := Lib.hid hx4; clear hx4 hb4; have d1 : w4.cell? ⟨Q, 0, none⟩ = some (.int .i64 sx) := HA4.out.bx.cell 0; have d2 : w4.cell? ⟨Q, 1, none⟩ = some (.slice X nx cx) := HA4.out.bx.cell 1; have d3 := HA4.out.bx.frozen 0; have d4 := HA4.out.bx.frozen 1; try dsimp only [XV.val]))
          all_goals
            go_wp2_with fail
            go_roundw
            case rel => exact ⟨k + 1, ⟨s4, E4, l4, c4⟩, by go_num, by omega, by rw [HT.out]; exact HA4.out.set ⟨s4, E4, l4, c4⟩ HX4.out⟩
            case measure => simp only [intOf]; omega
      | false =>
        rw [hsr] at HT
        have hcs : (0 ≤ a ∧ ch < b) ∨ (a < 0 ∧ ch + b ≤ 10000) := by
          unfold Mb.sure at hsr
          by_cases h : a < 0
          · rw [if_pos h] at hsr; simp at hsr; omega
          · rw [if_neg h] at hsr; simp at hsr; omega
        clear hsr
        rcases hcs with ⟨k1, k2⟩ | ⟨k1, k2⟩
        all_goals
          go_wp2_with fail
          go_roundw
          case rel => exact ⟨k + 1, _, by go_num, by omega, by rw [HT.out]; exact ⟨HA.out.bx, HA.out.ex.more (by omega), HA.out.be, HA.out.hQ⟩⟩
          case measure => simp only [intOf]; omega
    · obtain rfl : k = n := by omega
      have htk : xs.take k = xs := List.take_of_length_le (by rw [HN.out]; omega)
      rw [htk] at HA
      clear htk
      go_wp2_with fail
      refine (rprice_any _ _ (7 + k) _ (HA.out.ex.any (by omega)) (by omega) (by omega) x y HP.out).mono ?_
      rintro e w3 ⟨rfl, hb⟩
      have HB := Lib.hid (HA.out.be.trans (hb.mono HA.out.be.size))
      clear hb
      go_wp2_with fail
      go_ret2
      exact ⟨rfl, HB.out⟩

theorem prods_snoc (l : List Mb) (m : Mb) : prods (l ++ [m]) = prods l + m.a * m.ch := by simp [prods]
theorem prods_bound (l : List Mb) (hi : ∀ m ∈ l, Mb.I m) (h : ∀ m ∈ l, 0 ≤ m.ch ∧ m.ch ≤ 10000) : -(92233720368547758080000 * (l.length : Int)) ≤ prods l ∧ prods l ≤ 92233720368547758080000 * (l.length : Int) := by
  induction l with
  | nil => simp [prods]
  | cons m l ih =>
    obtain ⟨h1, h2⟩ := ih (fun x hx => hi x (by simp [hx])) (fun x hx => h x (by simp [hx]))
    have hm := h m (by simp)
    have hq := hi m (by simp)
    have h3 := hq.1.1
    have h4 := hq.1.2
    have h5 : m.a * m.ch ≤ 92233720368547758080000 ∧ -92233720368547758080000 ≤ m.a * m.ch := by
      have hn : m.a.natAbs * m.ch.natAbs ≤ 9223372036854775808 * 10000 := Nat.mul_le_mul (by omega) (by omega)
      rw [← Int.natAbs_mul] at hn
      omega
    rw [prods_cons, List.length_cons]
    omega
theorem mean_fits {l : List Mb} (hi : ∀ m ∈ l, Mb.I m) (h : ∀ m ∈ l, 0 ≤ m.ch ∧ m.ch ≤ 10000) (hl : l.length ≤ 32) : -prods l + 10000 < 2 ^ 200 ∧ prods l < 2 ^ 200 := by
  have := prods_bound l hi h
  have e : (92233720368547758080000 : Int) * 32 + 10000 < 2 ^ 200 := by decide +kernel
  generalize (2 : Int) ^ 200 = P at *
  omega
end Go.Proofs.Ytejkamgidhpcjaa.CO
