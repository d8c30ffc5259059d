import Derived.Test.YtdapcahphaldjaaNetK
import Derived.ChangeKeysEq
namespace Go.Proofs.Ytdapcahphaldjaa.Net
open Go.RowKit Go.Proofs.Ytdapcahphaldjaa.Cents
theorem info_i64 : ∃ i, Try.prog.info? 2 = some i := by
  have h : (Try.prog.info? 2).isSome = true := by kernel_rfl
  exact Option.isSome_iff_exists.1 h
theorem cells_i64 : Try.prog.cellsOf 2 = 1 := by kernel_rfl
theorem und_arr4 : Try.prog.underlying 54 = some (.array 4 2) := Try.underlying54
theorem part_i64 (w : World) (xs : Array Value) (n : Nat) (x : Int) (h : xs[n]? = some (.int .i64 x)) : (part 2 xs n).run Try.prog w = .ok (.int .i64 x) w := by
  obtain ⟨i, hi⟩ := info_i64
  simp [part, h, isAgg, run_underlying Try.underlying2, go_sem]
theorem eq_arr4 (w : World) (x0 x1 x2 x3 y0 y1 y2 y3 : Int) : (Op.equalIn 10000 54 (.agg #[.int .i64 x0, .int .i64 x1, .int .i64 x2, .int .i64 x3]) (.agg #[.int .i64 y0, .int .i64 y1, .int .i64 y2, .int .i64 y3])).run Try.prog w = .ok (x0 == y0 && (x1 == y1 && (x2 == y2 && x3 == y3))) w := by
  obtain ⟨i, hi⟩ := info_i64
  have e0 := part_i64 w #[.int .i64 x0, .int .i64 x1, .int .i64 x2, .int .i64 x3] 0 x0 rfl
  have e1 := part_i64 w #[.int .i64 x0, .int .i64 x1, .int .i64 x2, .int .i64 x3] 1 x1 rfl
  have e2 := part_i64 w #[.int .i64 x0, .int .i64 x1, .int .i64 x2, .int .i64 x3] 2 x2 rfl
  have e3 := part_i64 w #[.int .i64 x0, .int .i64 x1, .int .i64 x2, .int .i64 x3] 3 x3 rfl
  have g0 := part_i64 w #[.int .i64 y0, .int .i64 y1, .int .i64 y2, .int .i64 y3] 0 y0 rfl
  have g1 := part_i64 w #[.int .i64 y0, .int .i64 y1, .int .i64 y2, .int .i64 y3] 1 y1 rfl
  have g2 := part_i64 w #[.int .i64 y0, .int .i64 y1, .int .i64 y2, .int .i64 y3] 2 y2 rfl
  have g3 := part_i64 w #[.int .i64 y0, .int .i64 y1, .int .i64 y2, .int .i64 y3] 3 y3 rfl
  have q (a b : Int) : (Op.equalIn 9999 2 (.int .i64 a) (.int .i64 b)).run Try.prog w = .ok (a == b) w := run_equalIn_int w 9998 _ .i64 .i64 a b Try.underlying2
  rw [run_equalIn_array w 9999 _ _ und_arr4 hi, cells_i64, show List.range 4 = [0, 1, 2, 3] by decide]
  simp only [Op.eqItems, Sem.run_bind, Nat.mul_one, e0, e1, e2, e3, g0, g1, g2, g3, q, Result.andThen_ok, Sem.run_ite, Sem.run_pure]
  cases x0 == y0 <;> cases x1 == y1 <;> cases x2 == y2 <;> cases x3 == y3 <;> rfl
end Go.Proofs.Ytdapcahphaldjaa.Net
