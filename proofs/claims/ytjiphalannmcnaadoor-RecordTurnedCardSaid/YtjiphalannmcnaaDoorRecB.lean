/- The walks of record's Blocks and Head. -/
import Derived.Test.YtjiphalannmcnaaDoorRecA
namespace Go.Proofs.YtjiphalannmcnaaDoor.REC
open Go.RowKit
set_option linter.unusedVariables false
set_option linter.unusedSimpArgs false

theorem blw_drewN {B : Nat} {w0 w : World} (h : Below B w0 w) (n : Nat) : Below B w0 (w.drewN n) := ⟨h.os, h.tape, h.output, h.size, h.block⟩
def I64r (n : Int) : Prop := -9223372036854775808 ≤ n ∧ n ≤ 9223372036854775807
def blkN (n : Int) : Int := if n < 0 ∨ 40000 < n then 0 else (n + 70) / 64
set_option maxHeartbeats 1000000 in
set_option maxRecDepth 100000 in
theorem blocks_any (n : Int) (w : World) (r : Int) (hr : blkN n = r) :
    Calls Tryd.prog 17 #[.int .i64 n] w fun e w' => e = .returned (.int .i64 r) ∧ w = w' := by
  unfold blkN at hr
  by_cases h1 : n < 0
  · rw [if_pos (.inl h1)] at hr
    subst hr
    have d1 : decide (n < 0) = true := by simpa using h1
    go_enter Tryd.func17, Tryd.ntmps17
    go_wp2_with fail
    go_ret
    exact ⟨rfl, rfl⟩
  · by_cases h2 : 40000 < n
    · rw [if_pos (.inr h2)] at hr
      subst hr
      go_enter Tryd.func17, Tryd.ntmps17
      go_wp2_with fail
      go_ret
      exact ⟨rfl, rfl⟩
    · rw [if_neg (by omega)] at hr
      subst hr
      have d1 : decide (n < 0) = false := by simpa using h1
      have e1 : IntKind.i64.wrap (n + 7) = n + 7 := IntWalk.i64_in _ (by omega)
      have e2 : IntKind.i64.wrap (n + 7 + 64) = n + 7 + 64 := IntWalk.i64_in _ (by omega)
      have e3 : IntKind.i64.wrap (n + 7 + 64 - 1) = n + 7 + 64 - 1 := IntWalk.i64_in _ (by omega)
      have e4 : (n + 7 + 64 - 1).tdiv 64 = (n + 70) / 64 := by rw [Int.tdiv_eq_ediv_of_nonneg (by omega)]; congr 1; omega
      go_enter Tryd.func17, Tryd.ntmps17
      go_wp2_with fail
      go_ret
      exact ⟨rfl, rfl⟩
/-- What a first block tells. -/
def bAt (s : ByteArray) (i : Nat) : Nat := (s.data.toList.getD i 0).toNat
def hdB (s : ByteArray) : Bool := decide (s.size = 64 ∧ bAt s 0 = 1 ∧ bAt s 1 * 256 + bAt s 2 ≤ 40000)
def hdN (s : ByteArray) : Int := if hdB s = true then ((bAt s 1 * 256 + bAt s 2 : Nat) : Int) else 0
def hdE (s : ByteArray) : Int := if s.size ≠ 64 ∨ 1 < bAt s 0 then 2 else if bAt s 0 = 0 then 0 else if 40000 < bAt s 1 * 256 + bAt s 2 then 8 else 0
theorem get_bAt {s : ByteArray} {i : Nat} (h : i < s.size) : s[i].toNat = bAt s i := by
  unfold bAt
  rw [List.getD_eq_getElem?_getD, List.getElem?_eq_getElem (by simpa using h)]
  rfl
theorem bAt_lt (s : ByteArray) (i : Nat) : bAt s i < 256 := UInt8.toNat_lt _
theorem hd_form {s : ByteArray} (hs : s.size ≠ 64 ∨ 1 < bAt s 0) : hdB s = false ∧ hdN s = 0 ∧ hdE s = 2 := by
  have hb : hdB s = false := by
    unfold hdB
    rw [decide_eq_false_iff_not]
    rintro ⟨h1, h2, _⟩
    rcases hs with c | c <;> omega
  exact ⟨hb, by unfold hdN; rw [hb]; rfl, by unfold hdE; rw [if_pos hs]⟩
theorem hd_zero {s : ByteArray} (hs : s.size = 64) (h : bAt s 0 = 0) : hdB s = false ∧ hdN s = 0 ∧ hdE s = 0 := by
  have hb : hdB s = false := by
    unfold hdB
    rw [decide_eq_false_iff_not]
    rintro ⟨h1, h2, _⟩
    omega
  exact ⟨hb, by unfold hdN; rw [hb]; rfl, by unfold hdE; rw [if_neg (by omega), if_pos h]⟩
theorem hd_great {s : ByteArray} (hs : s.size = 64) (h : bAt s 0 = 1) (hg : 40000 < bAt s 1 * 256 + bAt s 2) : hdB s = false ∧ hdN s = 0 ∧ hdE s = 8 := by
  have hb : hdB s = false := by
    unfold hdB
    rw [decide_eq_false_iff_not]
    rintro ⟨h1, h2, _⟩
    omega
  exact ⟨hb, by unfold hdN; rw [hb]; rfl, by unfold hdE; rw [if_neg (by omega), if_neg (by omega), if_pos hg]⟩
theorem hd_good {s : ByteArray} (hs : s.size = 64) (h : bAt s 0 = 1) (hg : bAt s 1 * 256 + bAt s 2 ≤ 40000) : hdB s = true ∧ hdN s = ((bAt s 1 * 256 + bAt s 2 : Nat) : Int) ∧ hdE s = 0 := by
  have hb : hdB s = true := by
    unfold hdB
    rw [decide_eq_true_eq]
    exact ⟨hs, h, hg⟩
  exact ⟨hb, by unfold hdN; rw [if_pos hb], by unfold hdE; rw [if_neg (by omega), if_neg (by omega), if_neg (by omega)]⟩
theorem or_bytes (a b : Nat) (ha : a < 256) (hb : b < 256) : bits .or .i64 ((a : Int) * 256) (b : Int) = ((a * 256 + b : Nat) : Int) := by
  have e : ((a : Int) * 256) = ((a * 256 : Nat) : Int) := by omega
  have h1 : a * 256 ||| b = a * 256 + b := by
    have := Nat.two_pow_add_eq_or_of_lt (i := 8) (b := b) (by omega) a
    rw [show 2 ^ 8 * a = a * 256 by omega] at this
    exact this.symm
  have hx : a * 256 ||| b < 2 ^ 63 := by rw [h1]; omega
  rw [e]
  show IntKind.i64.wrap ((BitVec.ofInt 64 ((a * 256 : Nat) : Int) ||| BitVec.ofInt 64 (b : Int)).toNat : Int) = _
  rw [BitVec.toNat_or, BitVec.ofInt_natCast, BitVec.ofInt_natCast, BitVec.toNat_ofNat, BitVec.toNat_ofNat, Nat.mod_eq_of_lt (by omega), Nat.mod_eq_of_lt (by omega), h1]
  exact IntWalk.i64_in _ (by omega)
set_option maxHeartbeats 1000000 in
set_option maxRecDepth 100000 in
theorem head_any (s : ByteArray) (w : World) (a : Bool) (b c : Int) (h : hdB s = a ∧ hdN s = b ∧ hdE s = c) :
    Calls Tryd.prog 12 #[.string s] w fun e w' => e = .returned (.tuple #[.bool a, .int .i64 b, .int .i64 c]) ∧ Below w.heap.size w w' := by
  obtain ⟨rfl, rfl, rfl⟩ := h
  by_cases hs : s.size = 64
  rotate_left
  · obtain ⟨hb, hn, he⟩ := hd_form (.inl hs)
    rw [hb, hn, he]
    have d1 : ((s.size : Int) == 64) = false := by simpa using (show ¬ (s.size : Int) = 64 by omega)
    have d2 : ((s.size : Int) != 64) = true := by simpa using (show ¬ (s.size : Int) = 64 by omega)
    have d3 : ¬ (s.size : Int) = 64 := by omega
    clear hb hn he
    go_enter Tryd.func12, Tryd.ntmps12
    go_wp2_with fail
    go_ret3
    exact ⟨rfl, Below.refl _ _⟩
  · have e0 : (s[0]'(by omega)).toNat = bAt s 0 := get_bAt _
    have e1 : (s[1]'(by omega)).toNat = bAt s 1 := get_bAt _
    have e2 : (s[2]'(by omega)).toNat = bAt s 2 := get_bAt _
    have hb0 := bAt_lt s 0
    have hb1 := bAt_lt s 1
    have hb2 := bAt_lt s 2
    have H1 := Lib.hid (fun h => hd_form (s := s) (.inr h))
    have H2 := Lib.hid (hd_zero hs)
    have H3 := Lib.hid (hd_great hs)
    have H4 := Lib.hid (hd_good hs)
    generalize hdN s = rn at *
    generalize hdE s = re at *
    generalize hdB s = rb at *
    generalize bAt s 0 = b0 at *
    generalize bAt s 1 = b1 at *
    generalize bAt s 2 = b2 at *
    have g1 := or_bytes b1 b2 hb1 hb2
    have g2 : IntKind.i64.wrap (b1 : Int) = (b1 : Int) := IntWalk.i64_in _ (by omega)
    have g3 : IntKind.i64.wrap ((b1 : Int) * 256) = (b1 : Int) * 256 := IntWalk.i64_in _ (by omega)
    have g4 : IntKind.i64.wrap (b2 : Int) = (b2 : Int) := IntWalk.i64_in _ (by omega)
    by_cases h1 : 1 < b0
    · obtain ⟨rfl, rfl, rfl⟩ := H1.out h1
      have d1 : (1 : Int) < (b0 : Int) := by omega
      clear H1 H2 H3 H4
      go_enter Tryd.func12, Tryd.ntmps12
      go_wp2_with fail
      go_ret3
      exact ⟨rfl, Below.refl _ _⟩
    · have d1 : ¬ (1 : Int) < (b0 : Int) := by omega
      by_cases h0 : b0 = 0
      · obtain ⟨rfl, rfl, rfl⟩ := H2.out h0
        subst h0
        clear H1 H2 H3 H4
        go_enter Tryd.func12, Tryd.ntmps12
        go_wp2_with fail
        go_quiet (fail)
        go_wp2_with fail
        go_ret3
        exact ⟨rfl, blw_drewN (Below.refl _ _) _⟩
      · obtain rfl : b0 = 1 := by omega
        obtain ⟨v, hv⟩ : ∃ v, b1 * 256 + b2 = v := ⟨_, rfl⟩
        rw [hv] at g1 H3 H4
        clear hv
        by_cases h2 : 40000 < v
        · obtain ⟨rfl, rfl, rfl⟩ := H3.out rfl h2
          have d2 : (40000 : Int) < (v : Int) := by omega
          clear H1 H2 H3 H4
          go_enter Tryd.func12, Tryd.ntmps12
          go_wp2_with fail
          go_quiet (fail)
          go_wp2_with fail
          go_ret3
          exact ⟨rfl, blw_drewN (Below.refl _ _) _⟩
        · obtain ⟨rfl, rfl, rfl⟩ := H4.out rfl (by omega)
          have d2 : ¬ (40000 : Int) < (v : Int) := by omega
          clear H1 H2 H3 H4
          go_enter Tryd.func12, Tryd.ntmps12
          go_wp2_with fail
          go_quiet (fail)
          go_wp2_with fail
          go_ret3
          exact ⟨rfl, blw_drewN (Below.refl _ _) _⟩
end Go.Proofs.YtjiphalannmcnaaDoor.REC
