/- The walks of portion: wrong, the greatest rest. -/
import Derived.Test.YtkceeifhnohioaaPortionMath3
import Derived.Test.YtkceeifhnohioaaPartIs
import Derived.Test.YtkceeifhnohioaaMem2
namespace Go.Proofs.Ytkceeifhnohioaa.PO
open Go.RowKit Go.Proofs.Ytkceeifhnohioaa.Cents
set_option linter.unusedVariables false
set_option linter.unusedSimpArgs false

theorem alloc1 (w : World) (o : Obj) : Below w.heap.size w (w.alloc o) := (Below.refl _ _).alloc (Nat.le_refl _) _
theorem int_cell {w : World} {A : Option Addr} {xs : List Int} (hr : Row w 0 A (ints xs)) {j : Nat} (h : j < xs.length) : ∃ ad, A = some ad ∧ w.cell? (ad.add j) = some (.int .i64 (xs.getD j 0)) := by
  obtain ⟨ad, e, _, hc⟩ := hr.at_ (k := j) (by rw [ints_len]; exact h)
  refine ⟨ad, e, ?_⟩
  rw [hc]
  simp [ints, List.getD_eq_getElem?_getD, h]
theorem take_anyb {P : Int → Bool} {xs : List Int} {j : Nat} (h : j < xs.length) : (xs.take (j + 1)).any P = ((xs.take j).any P || P (xs.getD j 0)) := by
  rw [List.take_succ_eq_append_getElem h, List.any_append]
  simp [List.getD_eq_getElem?_getD, h]

set_option maxHeartbeats 1000000 in
set_option maxRecDepth 100000 in
theorem wrong_any (A : Option Addr) (xs : List Int) (c : Nat) (w : World) (hx : ∀ x ∈ xs, I64 x) (hr : Row w 0 A (ints xs)) (hl : xs.length * 8 ≤ 140737488351232) (x y : Int) (hp : wN xs = x ∧ wE xs = y) :
    Calls Try.prog 31 #[.slice A xs.length c] w fun e w' => e = .returned (.tuple #[.int .i64 x, .int .i64 y]) ∧ Below w.heap.size w w' := by
  have HR := Lib.hid hr
  have HS := Lib.hid (fun u v (h : sumN xs.sum = u ∧ sumE xs.sum = v) => sum_is A xs c w u v hx hr hl h)
  obtain ⟨n, hn⟩ : ∃ n, xs.length = n := ⟨_, rfl⟩
  have HN := Lib.hid hn
  unfold wN at hp
  have he := hp.2
  have hx1 := hp.1
  rw [he] at hx1
  unfold wE at he
  rw [hn] at he hl HS ⊢
  clear hr hx hp hn
  by_cases h1 : 64 < n
  · rw [if_pos h1] at he
    rw [if_neg (by omega)] at hx1
    have HX := Lib.hid hx1
    have HE := Lib.hid he
    have h2 : decide ((64 : Int) < (n : Int)) = true := by simp; omega
    clear he h1 hx1
    go_enter Try.func31, Try.ntmps31
    go_wp2_with fail
    go_ret2
    exact ⟨by rw [← HE.out, ← HX.out]; rfl, Below.refl _ _⟩
  · rw [if_neg h1] at he
    have h2 : decide ((64 : Int) < (n : Int)) = false := by simp; omega
    have HE := Lib.hid he
    have HX := Lib.hid hx1
    clear he hx1 h1
    go_enter Try.func31, Try.ntmps31
    go_wp2_with fail
    go_loop [4, 12] (fun s i => ∃ (k : Nat) (b : Bool), s = .bool b ∧ i = .int .i64 (k : Int) ∧ k ≤ n ∧ (xs.take k).any (fun x => decide (x < 0)) = false ∧ (xs.take k).any (fun x => decide (0 < x)) = b) (fun _ i => n - (intOf i).toNat)
    case atStart => exact ⟨0, false, rfl, rfl, by omega, by simp, by simp⟩
    case round =>
      obtain ⟨k, b, rfl, rfl, hk, hneg, hpos⟩ := hrel
      have HNEG := Lib.hid hneg
      have HPOS := Lib.hid hpos
      clear hneg hpos
      by_cases hlt : k < n
      · obtain ⟨ad, rfl, c0⟩ := int_cell HR.out (j := k) (by rw [HN.out]; exact hlt)
        have t1 := take_anyb (P := fun x => decide (x < 0)) (xs := xs) (j := k) (by rw [HN.out]; exact hlt)
        have t2 := take_anyb (P := fun x => decide (0 < x)) (xs := xs) (j := k) (by rw [HN.out]; exact hlt)
        rw [HNEG.out, Bool.false_or] at t1
        rw [HPOS.out] at t2
        have hmem : xs.getD k 0 ∈ xs := by rw [List.getD_eq_getElem?_getD, List.getElem?_eq_getElem (by rw [HN.out]; exact hlt)]; exact List.getElem_mem _
        generalize xs.getD k 0 = a at *
        have T1 := Lib.hid t1
        have T2 := Lib.hid t2
        have HMEM := Lib.hid hmem
        have g0 : (0 : Int) ≤ (k : Int) := Int.natCast_nonneg _
        have g1 : (k : Int) < (n : Int) := by omega
        clear t1 t2 hmem
        by_cases h3 : a < 0
        · have hany : xs.any (fun x => decide (x < 0)) = true := by rw [List.any_eq_true]; exact ⟨a, HMEM.out, by simpa using h3⟩
          have hy : y = 1 := by rw [← HE.out, if_pos hany]
          have hx0 : x = 0 := by rw [← HX.out, if_neg (by omega)]
          have HY := Lib.hid (And.intro hx0 hy)
          clear hany hy hx0
          go_wp2_with fail
          go_ret2
          exact ⟨by rw [HY.out.1, HY.out.2]; rfl, Below.refl _ _⟩
        · have b3 : decide (a < 0) = false := by simpa using h3
          by_cases h4 : 0 < a
          · have b4 : decide (0 < a) = true := by simpa using h4
            cases b
            all_goals
              go_wp2_with fail
              go_round
              case rel => exact ⟨k + 1, _, rfl, by go_num, by omega, by rw [T1.out]; exact b3, by rw [T2.out, b4]; simp⟩
              case measure => simp [intOf]; omega
          · have b4 : decide (0 < a) = false := by simpa using h4
            cases b
            all_goals
              go_wp2_with fail
              go_round
              case rel => exact ⟨k + 1, _, rfl, by go_num, by omega, by rw [T1.out]; exact b3, by rw [T2.out, b4]; simp⟩
              case measure => simp [intOf]; omega
      · obtain rfl : k = n := by omega
        have htk : xs.take k = xs := List.take_of_length_le (by rw [HN.out]; omega)
        have hneg := HNEG.out
        have hpos := HPOS.out
        rw [htk] at hneg hpos
        have hE := HE.out
        rw [if_neg (by rw [hneg]; simp), hpos] at hE
        have HE2 := Lib.hid hE
        clear hneg hpos hE htk
        cases b with
        | false =>
          have hy : y = 1 := by rw [← HE2.out]; rfl
          have hx0 : x = 0 := by rw [← HX.out, if_neg (by omega)]
          have HY := Lib.hid (And.intro hx0 hy)
          clear hy hx0
          go_wp2_with fail
          go_ret2
          exact ⟨by rw [HY.out.1, HY.out.2]; rfl, Below.refl _ _⟩
        | true =>
          have hs : sumN xs.sum = x ∧ sumE xs.sum = y := by
            have h1 := HE2.out
            rw [if_pos rfl] at h1
            refine ⟨?_, h1⟩
            rw [← HX.out]
            unfold sumN sumE at *
            by_cases c : I64 xs.sum
            · rw [if_pos c] at h1 ⊢; rw [← h1, if_pos rfl]
            · rw [if_neg c] at h1 ⊢; rw [← h1, if_neg (by omega)]
          have HSS := Lib.hid (HS.out x y hs)
          clear hs
          go_wp2_with fail
          refine HSS.out.mono ?_
          rintro e w1 ⟨rfl, hb⟩
          have HB := Lib.hid hb
          clear hb
          go_wp2_with fail
          go_ret2
          exact ⟨rfl, HB.out⟩

/-- The boxes of Out: O the portions, R the rests, C the variable that holds the rests. -/
structure PW (w0 : World) (O R C n : Nat) (o q : List Int) (w : World) : Prop where
  bo : Blk w O 2 (ints o).toArray
  bq : Blk w R 2 (ints q).toArray
  bc : Blk w C 22 #[.slice (some ⟨R, 0, none⟩) n n]
  be : Below w0.heap.size w0 w
  hO : w0.heap.size ≤ O
  hR : w0.heap.size ≤ R
  hC : w0.heap.size ≤ C
  n1 : O ≠ R
  n2 : O ≠ C
  n3 : R ≠ C
  lo : o.length = n
  lq : q.length = n
section
variable {w0 w w' : World} {O R C n : Nat} {o q : List Int}
theorem PW.drewN (h : PW w0 O R C n o q w) (k : Nat) : PW w0 O R C n o q (w.drewN k) := ⟨h.bo, h.bq, h.bc, ⟨h.be.os, h.be.tape, h.be.output, h.be.size, h.be.block⟩, h.hO, h.hR, h.hC, h.n1, h.n2, h.n3, h.lo, h.lq⟩
theorem PW.drew (h : PW w0 O R C n o q w) : PW w0 O R C n o q w.drew := ⟨h.bo, h.bq, h.bc, h.be.drew, h.hO, h.hR, h.hC, h.n1, h.n2, h.n3, h.lo, h.lq⟩
theorem PW.quiet (h : PW w0 O R C n o q w) (hq : Quiet w w') : PW w0 O R C n o q w' := by
  obtain ⟨k, rfl⟩ := hq
  exact h.drewN k
theorem blk_get {w : World} {g t : Nat} {xs : List Int} (h : Blk w g t (ints xs).toArray) {j : Nat} (hj : j < xs.length) : w.cell? ⟨g, j, none⟩ = some (.int .i64 (xs.getD j 0)) := by
  rw [h.cell]
  simp [ints, List.getD_eq_getElem?_getD, hj]
theorem blk_set {w : World} {g t : Nat} {xs : List Int} (h : Blk w g t (ints xs).toArray) (j : Nat) (x : Int) : Blk (w.setCell ⟨g, j, none⟩ (.int .i64 x)) g t (ints (xs.set j x)).toArray := by
  have := h.set_ j (.int .i64 x)
  rw [show (ints (xs.set j x)).toArray = (ints xs).toArray.setIfInBounds j (.int .i64 x) by simp [ints, List.map_set]]
  exact this
theorem PW.setO (h : PW w0 O R C n o q w) (j : Nat) (x : Int) : PW w0 O R C n (o.set j x) q (w.setCell ⟨O, j, none⟩ (.int .i64 x)) :=
  ⟨blk_set h.bo j x, h.bq.far (fun e => h.n1 e.symm) _, h.bc.far (fun e => h.n2 e.symm) _, h.be.setCell h.hO _, h.hO, h.hR, h.hC, h.n1, h.n2, h.n3, by simp [h.lo], h.lq⟩
theorem PW.setQ (h : PW w0 O R C n o q w) (j : Nat) (x : Int) : PW w0 O R C n o (q.set j x) (w.setCell ⟨R, j, none⟩ (.int .i64 x)) :=
  ⟨h.bo.far h.n1 _, blk_set h.bq j x, h.bc.far (fun e => h.n3 e.symm) _, h.be.setCell h.hR _, h.hO, h.hR, h.hC, h.n1, h.n2, h.n3, h.lo, by simp [h.lq]⟩
end

theorem blk_put {w : World} {g t j : Nat} {xs : List Int} {x : Int} (h : Blk w g t (ints (xs.set j x)).toArray) (hj : j < xs.length) : w.cell? ⟨g, j, none⟩ = some (.int .i64 x) := by
  have := blk_get h (j := j) (by simpa using hj)
  rw [getD_set hj, if_pos rfl] at this
  exact this
def BestRet (q : List Int) (n : Nat) (w : World) (e : Ending) (w' : World) : Prop := ∃ b : Nat, e = .returned (.int .i64 (b : Int)) ∧ Best q n b ∧ w = w'
set_option maxHeartbeats 1000000 in
set_option maxRecDepth 100000 in
theorem greatest_any (R C n : Nat) (q : List Int) (w : World) (bq : Blk w R 2 (ints q).toArray) (bc : Blk w C 22 #[.slice (some ⟨R, 0, none⟩) n n]) (lq : q.length = n) (hn1 : 1 ≤ n) (hn : n ≤ 1000000) :
    Calls Try.prog 35 #[.pointer (some ⟨C, 0, none⟩)] w (BestRet q n w) := by
  have c0 : w.cell? ⟨C, 0, none⟩ = some (.slice (some ⟨R, 0, none⟩) n n) := bc.cell 0
  have HQ := Lib.hid bq
  have HL := Lib.hid lq
  clear bq bc lq
  go_enter Try.func35, Try.ntmps35
  go_wp2_with fail
  go_loop [2, 7] (fun a i => ∃ (b k : Nat), a = .int .i64 (b : Int) ∧ i = .int .i64 (k : Int) ∧ k ≤ n ∧ b < n ∧ (b ≤ k ∧ (0 < k → b < k)) ∧ (∀ i, i < k → q.getD i 0 ≤ q.getD b 0) ∧ (∀ i, i < b → q.getD i 0 < q.getD b 0)) (fun _ i => n - (intOf i).toNat)
  case atStart => exact ⟨0, 0, rfl, rfl, by omega, by omega, ⟨by omega, by omega⟩, fun i hi => by omega, fun i hi => by omega⟩
  case round =>
    obtain ⟨b, k, rfl, rfl, hk, hb, hbk, ht, hf⟩ := hrel
    have HT := Lib.hid ht
    have HF := Lib.hid hf
    have HBK := Lib.hid hbk
    clear ht hf hbk
    by_cases hlt : k < n
    · have ck := blk_get HQ.out (j := k) (by rw [HL.out]; exact hlt)
      have cb := blk_get HQ.out (j := b) (by rw [HL.out]; exact hb)
      obtain ⟨x, hx⟩ : ∃ x, q.getD k 0 = x := ⟨_, rfl⟩
      obtain ⟨y, hy⟩ : ∃ y, q.getD b 0 = y := ⟨_, rfl⟩
      rw [hx] at ck
      rw [hy] at cb
      have HX := Lib.hid hx
      have HY := Lib.hid hy
      have g0 : (0 : Int) ≤ (k : Int) := Int.natCast_nonneg _
      have g1 : (k : Int) < (n : Int) := by omega
      have g2 : (0 : Int) ≤ (b : Int) := Int.natCast_nonneg _
      have g3 : (b : Int) < (n : Int) := by omega
      clear hx hy
      by_cases hxy : y < x
      · go_wp2_with fail
        go_round
        case rel =>
          refine ⟨k, k + 1, rfl, by go_num, by omega, hlt, ⟨by omega, by omega⟩, fun i hi => ?_, fun i hi => ?_⟩
          · rcases Nat.lt_or_ge i k with c | c
            · have := HT.out i c; rw [HY.out] at this; rw [HX.out]; omega
            · rw [show i = k by omega]; exact Int.le_refl _
          · have := HT.out i hi; rw [HY.out] at this; rw [HX.out]; omega
        case measure => simp [intOf]; omega
      · go_wp2_with fail
        go_round
        case rel =>
          refine ⟨b, k + 1, rfl, by go_num, by omega, hb, ⟨by have := HBK.out.1; omega, fun _ => by have := HBK.out; omega⟩, fun i hi => ?_, HF.out⟩
          · rcases Nat.lt_or_ge i k with c | c
            · exact HT.out i c
            · rw [show i = k by omega, HX.out, HY.out]; omega
        case measure => simp [intOf]; omega
    · obtain rfl : k = n := by omega
      go_wp2_with fail
      go_ret
      exact ⟨b, rfl, ⟨hb, HT.out, HF.out⟩, rfl⟩
end Go.Proofs.Ytkceeifhnohioaa.PO
