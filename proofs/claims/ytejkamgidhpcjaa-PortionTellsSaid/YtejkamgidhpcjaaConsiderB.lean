/- The walks of consider: check, price, Likely, Mean. -/
import Derived.Test.YtejkamgidhpcjaaConsiderA
namespace Go.Proofs.Ytejkamgidhpcjaa.CO
open Go.RowKit Go.Proofs.Ytejkamgidhpcjaa.Cents
set_option linter.unusedVariables false
set_option linter.unusedSimpArgs false

set_option maxHeartbeats 1000000 in
set_option maxRecDepth 100000 in
theorem check_any (f b : Int) (A : Option Addr) (xs : List Mb) (c : Nat) (w : World) (hr : Row w 0 A (mcells xs)) (hl : xs.length * 16 ≤ 140737488351232) (e0 : Int) (he : checkE f xs b = e0) :
    Calls Try.prog 26 #[.int .i64 f, .slice A xs.length c, .int .i64 b] w fun e w' => e = .returned (.int .i64 e0) ∧ Below w.heap.size w w' := by
  have HC := Lib.hid (fun x (h : anyW xs = x) => contains_any A xs c w hr hl x h)
  have HE := Lib.hid he
  obtain ⟨n, hn⟩ : ∃ n, xs.length = n := ⟨_, rfl⟩
  unfold checkE at he
  rw [hn] at he
  rw [hn] at hl HC ⊢
  clear hr hn
  by_cases h1 : 32 < n
  · rw [if_pos h1] at he
    have HE := Lib.hid he
    have h2 : decide ((32 : Int) < (n : Int)) = true := by simp; omega
    clear he h1
    go_enter Try.func26, Try.ntmps26
    go_wp2_with fail
    go_ret
    exact ⟨by rw [← HE.out]; rfl, Below.refl _ _⟩
  · rw [if_neg h1] at he
    have h2 : decide ((32 : Int) < (n : Int)) = false := by simp; omega
    by_cases h3 : f < 0
    · rw [if_pos (.inl h3)] at he
      have HE := Lib.hid he
      clear he h1
      go_enter Try.func26, Try.ntmps26
      go_wp2_with fail
      go_ret
      exact ⟨by rw [← HE.out]; rfl, Below.refl _ _⟩
    · by_cases h4 : inB b = true
      · have hbb : ¬ (b < 0) ∧ ¬ (10000 < b) := by unfold inB at h4; simp at h4; omega
        have H4 := Lib.hid h4
        cases hany : anyW xs with
        | true =>
          rw [if_pos (.inr (.inr (.inr hany)))] at he
          have HE := Lib.hid he
          have HA := Lib.hid hany
          clear he h1 h4 hany hbb
          go_enter Try.func26, Try.ntmps26
          go_wp2_with fail
          refine (within_any b _ true H4.out).mono ?_
          rintro e w1 ⟨rfl, rfl⟩
          go_wp2_with fail
          refine (HC.out true HA.out).mono ?_
          rintro e w1 ⟨rfl, hb1⟩
          have HB1 := Lib.hid hb1
          clear hb1
          go_wp2_with fail
          go_ret
          exact ⟨by rw [← HE.out]; rfl, HB1.out⟩
        | false =>
          rw [if_neg (by rw [hany]; simp; omega)] at he
          have HE := Lib.hid he
          have HA := Lib.hid hany
          clear he h1 h4 hany hbb
          go_enter Try.func26, Try.ntmps26
          go_wp2_with fail
          refine (within_any b _ true H4.out).mono ?_
          rintro e w1 ⟨rfl, rfl⟩
          go_wp2_with fail
          refine (HC.out false HA.out).mono ?_
          rintro e w1 ⟨rfl, hb1⟩
          have HB1 := Lib.hid hb1
          clear hb1
          go_wp2_with fail
          go_ret
          exact ⟨by rw [← HE.out]; rfl, HB1.out⟩
      · have h5 : inB b = false := by simpa using h4
        have hbb : b < 0 ∨ 10000 < b := by unfold inB at h5; simp at h5; omega
        rw [if_pos (by omega)] at he
        have HE := Lib.hid he
        have H5 := Lib.hid h5
        clear he h1 h4 h5 hbb
        go_enter Try.func26, Try.ntmps26
        go_wp2_with fail
        refine (within_any b _ false H5.out).mono ?_
        rintro e w1 ⟨rfl, rfl⟩
        go_wp2_with fail
        go_ret
        exact ⟨by rw [← HE.out]; rfl, Below.refl _ _⟩

set_option maxHeartbeats 1000000 in
set_option maxRecDepth 100000 in
theorem price_any (A : Option Addr) (xs : List Int) (c : Nat) (w : World) (hx : ∀ x ∈ xs, I64 x) (hr : Row w 0 A (ints xs)) (hl : xs.length * 8 ≤ 140737488351232) (x y : Int) (hp : priceN xs.sum = x ∧ priceE xs.sum = y) :
    Calls Try.prog 28 #[.slice A xs.length c] w fun e w' => e = .returned (.tuple #[.int .i64 x, .int .i64 y]) ∧ Below w.heap.size w w' := by
  unfold priceN priceE at hp
  generalize hs : xs.sum = s at *
  have HS := Lib.hid (fun u v (h : sumN s = u ∧ sumE s = v) => sum_is A xs c w u v hx hr hl (by rw [hs]; exact h))
  clear hs
  by_cases h : I64 s
  · rw [if_pos h, if_pos h] at hp
    have HSS := Lib.hid (HS.out s 0 (by unfold sumN sumE; rw [if_pos h, if_pos h]; exact ⟨rfl, rfl⟩))
    generalize xs.length = n at *
    clear hx hr hl
    by_cases hn : s < 0
    · rw [if_pos hn, if_pos hn] at hp
      have HP := Lib.hid hp
      clear hp h
      go_enter Try.func28, Try.ntmps28
      go_wp2_with fail
      refine HSS.out.mono ?_
      rintro e w1 ⟨rfl, hb⟩
      have HB := Lib.hid hb
      clear hb
      go_wp2_with fail
      go_ret2
      exact ⟨by rw [← HP.out.1, ← HP.out.2]; rfl, HB.out⟩
    · rw [if_neg hn, if_neg hn] at hp
      have HP := Lib.hid hp
      clear hp h
      go_enter Try.func28, Try.ntmps28
      go_wp2_with fail
      refine HSS.out.mono ?_
      rintro e w1 ⟨rfl, hb⟩
      have HB := Lib.hid hb
      clear hb
      go_wp2_with fail
      go_ret2
      exact ⟨by rw [← HP.out.1, ← HP.out.2]; rfl, HB.out⟩
  · rw [if_neg h, if_neg h] at hp
    have HSS := Lib.hid (HS.out 0 3 (by unfold sumN sumE; rw [if_neg h, if_neg h]; exact ⟨rfl, rfl⟩))
    have HP := Lib.hid hp
    generalize xs.length = n at *
    clear hx hr hl hp h
    go_enter Try.func28, Try.ntmps28
    go_wp2_with fail
    refine HSS.out.mono ?_
    rintro e w1 ⟨rfl, hb⟩
    have HB := Lib.hid hb
    clear hb
    go_wp2_with fail
    go_ret2
    exact ⟨by rw [← HP.out.1, ← HP.out.2]; rfl, HB.out⟩

/-- The amounts that were collected. -/
structure AllW (w0 : World) (out : List Int) (v : Value) (w : World) : Prop where
  own : w.ownsRow w0.heap.size 2 1 v out.length (ints out)
  be : Below w0.heap.size w0 w
theorem AllW.later {w0 w w' : World} {out : List Int} {v : Value} (h : AllW w0 out v w) (hb : Below w.heap.size w w') : AllW w0 out v w' :=
  ⟨own_fr h.own (Fr.later (S := fun _ => False) hb) (by simp), h.be.trans (hb.mono h.be.size)⟩
theorem AllW.drewN {w0 w : World} {out : List Int} {v : Value} (h : AllW w0 out v w) (q : Nat) : AllW w0 out v (w.drewN q) := ⟨h.own, ⟨h.be.os, h.be.tape, h.be.output, h.be.size, h.be.block⟩⟩
theorem AllW.step {w0 w w1 : World} {out : List Int} {v v' : Value} {x : Int} {o : Obj} (h : AllW w0 out v w) (hown : w1.ownsRow w0.heap.size 2 1 v' (out.length + 1) (ints out ++ [.int .i64 x])) (hg : (w.alloc o).grownBy w1 v.ownBlock) : AllW w0 (out ++ [x]) v' w1 := by
  refine ⟨?_, (h.be.alloc h.be.size _).grown hg (by simp; have := h.be.size; omega) (fun j hj => by have := (h.own.lt j hj).1; omega)⟩
  rw [List.length_append, show ints (out ++ [x]) = ints out ++ [.int .i64 x] by simp [ints]]
  exact hown
theorem AllW.row {w0 w : World} {out : List Int} {A : Option Addr} {c : Nat} (h : AllW w0 out (.slice A out.length c) w) : Row w 0 A (ints out) := (Row.of_own h.own (by decide)).weak (Nat.zero_le _)
theorem AllW.start {w0 w : World} (f : Int) (h : Below w0.heap.size w0 w) : AllW w0 [f] (.slice (some ⟨w.heap.size, 0, none⟩) 1 1) (w.alloc (.cells #[.int .i64 f] 2)) :=
  ⟨World.ownsRow_lit _ #[.int .i64 f] 1 h.size (by decide) rfl, h.alloc h.size _⟩

set_option maxHeartbeats 2000000 in
set_option maxRecDepth 100000 in
theorem likely_ok (f b : Int) (A : Option Addr) (xs : List Mb) (c : Nat) (w : World) (hr : Row w 0 A (mcells xs)) (hi : ∀ m ∈ xs, Mb.I m) (hf : I64 f) (hl : xs.length * 16 ≤ 140737488351232) (h0 : checkE f xs b = 0) (x y : Int) (hp : priceN (likelyS f xs b) = x ∧ priceE (likelyS f xs b) = y) :
    Calls Try.prog 12 #[.int .i64 f, .slice A xs.length c, .int .i64 b] w fun e w' => e = .returned (.tuple #[.int .i64 x, .int .i64 y]) ∧ Below w.heap.size w w' := by
  have HC := Lib.hid (check_any f b A xs c w hr hl 0 h0)
  obtain ⟨hl32, hf0, hb0, hb1, hch⟩ := check_ok h0
  have HR := Lib.hid hr
  have HI := Lib.hid hi
  have HF := Lib.hid hf
  have HP := Lib.hid hp
  have HCH := Lib.hid hch
  obtain ⟨n, hn⟩ : ∃ n, xs.length = n := ⟨_, rfl⟩
  rw [hn] at hl hl32 HC ⊢
  have HN := Lib.hid hn
  clear hr hi hf hp hch hn h0
  go_enter Try.func12, Try.ntmps12
  go_wp2_with fail
  refine HC.out.mono ?_
  rintro e w1 ⟨rfl, hb⟩
  have HB := Lib.hid hb
  clear hb
  go_wp2_with fail
  have HS := Lib.hid (AllW.start f HB.out)
  go_loopw [9, 23] (fun v i wr => ∃ (k u : Nat) (B : Option Addr) (cb : Nat), v = .slice B u cb ∧ i = .int .i64 (k : Int) ∧ k ≤ n ∧ u = (f :: sures (xs.take k) b).length ∧ AllW w (f :: sures (xs.take k) b) v wr) (fun _ i _ => n - (intOf i).toNat)
  case atStart => exact ⟨0, 1, _, 1, rfl, rfl, by omega, by simp [sures], by simpa [sures] using HS.out⟩
  case round =>
    obtain ⟨k, u, B, cb, rfl, rfl, hk, hu, hs⟩ := hrel
    by_cases hlt : k < n
    · obtain ⟨ad, rfl, c0, c1⟩ := mb_cells (HR.out.below hs.be) (j := k) (by rw [HN.out]; exact hlt)
      have hul : u ≤ k + 1 := by
        rw [hu, List.length_cons]
        have := sures_len (xs.take k) b
        rw [List.length_take] at this
        omega
      obtain ⟨m, hm⟩ : ∃ m, m = xs[k]'(by rw [HN.out]; exact hlt) := ⟨_, rfl⟩
      have hts : sures (xs.take (k + 1)) b = if m.sure b = true then sures (xs.take k) b ++ [m.a] else sures (xs.take k) b := by
        rw [List.take_succ_eq_append_getElem (by rw [HN.out]; exact hlt), sures_snoc, ← hm]
      rw [← hm] at c0 c1
      obtain ⟨a, ch⟩ := m
      dsimp only at c0 c1 hts
      have HT := Lib.hid hts
      have HSS := Lib.hid hs
      have HU := Lib.hid hu
      have g0 : (0 : Int) ≤ (k : Int) := Int.natCast_nonneg _
      have g1 : (k : Int) < (n : Int) := by omega
      have hb1' : (u + 1) * 8 ≤ 140737488355328 := by omega
      have hb2' : u + 1 ≤ maxLen := by unfold maxLen; omega
      clear hts hs hu hm
      cases hsr : Mb.sure ⟨a, ch⟩ b with
      | true =>
        have HSR := Lib.hid hsr
        clear hsr
        go_wp2_with fail
        refine (sure_any a ch b _ hb0 hb1 true HSR.out).mono ?_
        rintro e w2 ⟨rfl, hb⟩
        have HSS2 := Lib.hid ((HSS.out.later (alloc1 _ _)).later hb)
        have hbx := (Blk.new wr 26 #[.int .i64 a, .int .i64 ch]).below hb (by simp)
        have d0 : w2.cell? ⟨wr.heap.size, 0, none⟩ = some (.int .i64 a) := hbx.cell 0
        have OW := Lib.hid (show w2.ownsRow w.heap.size 2 1 (.slice B u cb) u (ints (f :: sures (xs.take k) b)) by have := HSS2.out.own; rw [← HU.out] at this; exact this)
        have hsz : w.heap.size ≤ w2.heap.size := HSS2.out.be.size
        clear hb hbx
        go_wp2_with (at_builtin; refine wpList_app E_i64 rfl (.tmp 30) (.tmp 33) rfl rfl (OW.out.alloc _) ⟨w2.heap.size, 0, none⟩ 1 1 [.int .i64 a] rfl rfl (cell_one_new _ _ _) (one_cell _ _) hb1' hb2' (by simp; omega) (by decide) ?_; intro g cap w3 hown3 hg3 hat3; have HO3 := Lib.hid hown3; have HG3 := Lib.hid hg3; clear hown3 hg3 hat3)
        go_roundw
        case rel =>
          refine ⟨k + 1, u + 1, _, _, rfl, by go_num, by omega, ?_, ?_⟩
          · rw [HT.out, if_pos HSR.out, HU.out]; simp
          · rw [HT.out, if_pos HSR.out, show f :: (sures (xs.take k) b ++ [a]) = (f :: sures (xs.take k) b) ++ [a] by simp]
            exact HSS2.out.step (by rw [← HU.out]; exact HO3.out) (by have := HG3.out; exact this)
        case measure => simp only [intOf]; omega
      | false =>
        have HSR := Lib.hid hsr
        clear hsr
        go_wp2_with fail
        refine (sure_any a ch b _ hb0 hb1 false HSR.out).mono ?_
        rintro e w2 ⟨rfl, hb⟩
        have HSS2 := Lib.hid ((HSS.out.later (alloc1 _ _)).later hb)
        clear hb
        go_wp2_with fail
        go_roundw
        case rel =>
          refine ⟨k + 1, u, _, _, rfl, by go_num, by omega, ?_, ?_⟩
          · rw [HT.out, if_neg (by rw [HSR.out]; simp), HU.out]
          · rw [HT.out, if_neg (by rw [HSR.out]; simp)]; exact HSS2.out
        case measure => simp only [intOf]; omega
    · obtain rfl : k = n := by omega
      have htk : xs.take k = xs := List.take_of_length_le (by rw [HN.out]; omega)
      rw [htk] at hu hs
      have hsl := sures_len xs b
      rw [HN.out] at hsl
      have hul : u ≤ 40 := by rw [hu, List.length_cons]; omega
      have hs2 : AllW w (f :: sures xs b) (.slice B (f :: sures xs b).length cb) wr := by rw [← hu]; exact hs
      have HPR := Lib.hid (price_any B (f :: sures xs b) cb wr (by
        intro z hz
        rcases List.mem_cons.1 hz with hz | hz
        · rw [hz]; exact HF.out
        · exact sures_mem HI.out z hz) hs2.row (by rw [← hu]; omega) x y (by
        have := HP.out; unfold likelyS at this; rw [List.sum_cons]; exact this))
      have HPR2 := Lib.hid (show Calls Try.prog 28 #[.slice B u cb] wr _ by have := HPR.out; rw [← hu] at this; exact this)
      have HBE := Lib.hid hs.be
      clear hs hs2 hu htk hsl
      go_wp2_with fail
      refine HPR2.out.mono ?_
      rintro e w2 ⟨rfl, hb⟩
      have HB2 := Lib.hid (HBE.out.trans (hb.mono HBE.out.size))
      clear hb
      go_wp2_with fail
      go_ret2
      exact ⟨rfl, HB2.out⟩
end Go.Proofs.Ytejkamgidhpcjaa.CO
