/- The walk of the law StoreKeeps, at any arguments. -/
import Derived.Test.YtdapcahphaldjaaKeeps
namespace Go.Proofs.Ytdapcahphaldjaa.Store
open Go.RowKit
set_option linter.unusedVariables false
set_option linter.unusedSimpArgs false

set_option maxHeartbeats 2000000 in
set_option maxRecDepth 100000 in
theorem keeps_out (n : Int) (A : Option Addr) (m c : Nat) (xd xa xn xt : Int) (xb : ByteArray) (xw : Bool) (w : World) (h : 40 < n ∨ 40 < m ∨ 100 < xb.size) (hl : m * 56 ≤ 140737488351232) :
    Calls Try.prog 4 #[.int .i64 n, .slice A m c, .agg #[.int .i64 xd, .int .i64 xa, .int .i64 xn, .int .i64 xt, .string xb, .bool xw]] w fun e w' => e = .returned (.bool true) ∧ Below w.heap.size w w' := by
  by_cases h1 : 40 < n
  · clear h
    go_enter Try.func4, Try.ntmps4
    go_wp2_with fail
    refine (awake05 _).mono ?_
    rintro e w1 ⟨rfl, hb⟩
    have HB := Lib.hid ((alloc1 w _).trans (hb.mono (alloc1 w _).size))
    clear hb
    go_wp2_with fail
    go_ret
    exact ⟨rfl, HB.out⟩
  · have hn1 : decide (40 < n) = false := by simpa using h1
    by_cases h2 : 40 < m
    · have hm : decide ((40 : Int) < (m : Int)) = true := by simp; omega
      clear h h1 h2
      go_enter Try.func4, Try.ntmps4
      go_wp2_with fail
      refine (awake05 _).mono ?_
      rintro e w1 ⟨rfl, hb⟩
      have HB := Lib.hid ((alloc1 w _).trans (hb.mono (alloc1 w _).size))
      clear hb
      go_wp2_with fail
      go_ret
      exact ⟨rfl, HB.out⟩
    · have hm : decide ((40 : Int) < (m : Int)) = false := by simp; omega
      have hb1 : decide ((100 : Int) < (xb.size : Int)) = true := by simp; omega
      clear h h1 h2
      go_enter Try.func4, Try.ntmps4
      go_wp2_with fail
      have hbx := Blk.new w 32 #[.int .i64 xd, .int .i64 xa, .int .i64 xn, .int .i64 xt, .string xb, .bool xw]
      refine (awake05 _).mono ?_
      rintro e w1 ⟨rfl, hb⟩
      have HB := Lib.hid ((alloc1 w _).trans (hb.mono (alloc1 w _).size))
      have hbx := hbx.below hb (by simp)
      have c4 : w1.cell? ⟨w.heap.size, 4, none⟩ = some (.string xb) := hbx.cell 4
      clear hb hbx
      go_wp2_with fail
      go_ret
      exact ⟨rfl, HB.out⟩
set_option maxHeartbeats 2000000 in
set_option maxRecDepth 100000 in
theorem keeps_bad (n : Int) (A : Option Addr) (m c : Nat) (xd xa xn xt : Int) (xb : ByteArray) (xw : Bool) (w : World) (h : n < 3) (hm : m ≤ 40) (hxb : xb.size ≤ 100) :
    Calls Try.prog 4 #[.int .i64 n, .slice A m c, .agg #[.int .i64 xd, .int .i64 xa, .int .i64 xn, .int .i64 xt, .string xb, .bool xw]] w fun e w' => e = .returned (.bool true) ∧ Below w.heap.size w w' := by
  have hm2 : decide ((40 : Int) < (m : Int)) = false := by simp; omega
  have hb2 : decide ((100 : Int) < (xb.size : Int)) = false := by simp; omega
  have hn1 : decide (40 < n) = false := by simp; omega
  go_enter Try.func4, Try.ntmps4
  go_wp2_with fail
  have hbx := Blk.new w 32 #[.int .i64 xd, .int .i64 xa, .int .i64 xn, .int .i64 xt, .string xb, .bool xw]
  refine (awake05 _).mono ?_
  rintro e w1 ⟨rfl, hb⟩
  have HB := Lib.hid ((alloc1 w _).trans (hb.mono (alloc1 w _).size))
  have hbx := hbx.below hb (by simp)
  have c4 : w1.cell? ⟨w.heap.size, 4, none⟩ = some (.string xb) := hbx.cell 4
  clear hb hbx
  go_wp2_with fail
  refine (new_bad n _ (.inl h)).mono ?_
  rintro e w2 ⟨rfl, rfl⟩
  go_wp2_with fail
  go_ret
  exact ⟨rfl, HB.out⟩
theorem keeps_walk (n : Int) (A : Option Addr) (xs : List OpV) (c : Nat) (o : OpV) (w : World) (hn : I64' n) (hx : ∀ o ∈ xs, OpV.I o) (hr : Row w 0 A (ocells xs)) (hl : xs.length * 56 ≤ 140737488351232) (_ : o.I) :
    Calls Try.prog 4 #[.int .i64 n, .slice A xs.length c, o.val] w fun e w' => e = .returned (.bool true) ∧ Below w.heap.size w w' := by
  obtain ⟨xd, xa, xn, xt, xb, xw⟩ := o
  by_cases h : 40 < n ∨ 40 < xs.length ∨ 100 < xb.size
  · exact keeps_out n A xs.length c xd xa xn xt xb xw w h hl
  · by_cases d : n < 3
    · exact keeps_bad n A xs.length c xd xa xn xt xb xw w d (by omega) (by omega)
    · obtain ⟨j, rfl⟩ := Int.eq_ofNat_of_zero_le (show 0 ≤ n by omega)
      exact keeps_in j A xs c xd xa xn xt xb xw w (by omega) (by omega) hr hx (by omega) (by omega)
end Go.Proofs.Ytdapcahphaldjaa.Store
