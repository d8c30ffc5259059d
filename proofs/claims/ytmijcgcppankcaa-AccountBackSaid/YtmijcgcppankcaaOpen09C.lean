/- Rows: a slice of operations, opened, and that a nil one has no room. -/
import Derived.Test.YtmijcgcppankcaaOpen09
namespace Go.Proofs.Ytmijcgcppankcaa.AC
open Go.Joins Go.ChangeShapes Go.WideShapes Go.RowKit Go.Deep Go.Proofs.Ytmijcgcppankcaa.Net Go.Proofs.Ytmijcgcppankcaa.Cents
set_option linter.unusedVariables false
theorem open_opsC {H : Type} {enc : TypeId × Value → H} {W : World} {base : Nat} {spare : Nat → Bool} {held : Bool} {a : Option Addr} {len cap : Nat} {d : DataW H} {ps : List MemPlace} {ts : List TypeId} {ds : List (DataW H)} {j : Nat}
    (hsz : (DataW.weightsEach Try.prog ts ds).all (· ≤ reachBytes) = true) (ht : ts[j]? = some 22) (hd : ds[j]? = some d)
    (h : DataW.Trod enc Try.prog W base spare held 22 (.slice a len cap) d ps) : ∃ xs : List OpV, len = xs.length ∧ Row W 0 a (xs.flatMap OpV.cell) ∧ (∀ o ∈ xs, OpV.Q W o) ∧ (xs.length * 48 ≤ 140737488351232 ∧ (a = none → cap = 0)) := by
  obtain ⟨xs, h1, h2, h3, h4⟩ := open_ops hsz ht hd h
  refine ⟨xs, h1, h2, h3, h4, fun ha => ?_⟩
  obtain ⟨fuel, hfu⟩ := h
  rcases open_slice_fields Try.underlying22 Try.underlying34 (by kernel_rfl) (by kernel_rfl) hfu with ⟨hcs, _⟩ | ⟨x, l, c, m, D, Pl, hcs, _⟩
  · simp [Value.cells] at hcs
    exact hcs.2.2
  · simp [Value.cells] at hcs
    rw [ha] at hcs
    cases hcs.1
end Go.Proofs.Ytmijcgcppankcaa.AC
