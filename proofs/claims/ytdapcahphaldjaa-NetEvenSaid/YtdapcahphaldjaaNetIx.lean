/- An element of an array of two slices. -/
import Derived.Test.YtdapcahphaldjaaNetK
import Derived.ChangeKeysEq
namespace Go.Proofs.Ytdapcahphaldjaa.Net
open Go.RowKit Go.Proofs.Ytdapcahphaldjaa.Cents
theorem info_ps : ∃ i, Try.prog.info? 46 = some i := by
  have h : (Try.prog.info? 46).isSome = true := by kernel_rfl
  exact Option.isSome_iff_exists.1 h
theorem cells_ps : Try.prog.cellsOf 46 = 1 := by kernel_rfl
theorem und_two : Try.prog.underlying 59 = some (.array 2 46) := Try.underlying59
theorem part_ps (w : World) (xs : Array Value) (n : Nat) (x : Value) (h : xs[n]? = some x) : (part 46 xs n).run Try.prog w = .ok x w := by
  simp [part, h, isAgg, run_underlying Try.underlying46, go_sem]
theorem index_two0 (w : World) (x y : Value) : (Instr.index 59 (.agg #[x, y]) (.int .i64 0)).run Try.prog w = .ok x w := by
  obtain ⟨i, hi⟩ := info_ps
  simp [Instr.index, asIntOf, run_underlying und_two, run_sizeOf w hi, go_sem]
theorem index_two1 (w : World) (x y : Value) : (Instr.index 59 (.agg #[x, y]) (.int .i64 1)).run Try.prog w = .ok y w := by
  obtain ⟨i, hi⟩ := info_ps
  simp [Instr.index, asIntOf, run_underlying und_two, run_sizeOf w hi, cells_ps, go_sem]
end Go.Proofs.Ytdapcahphaldjaa.Net
