/- Rows: an argument that is a slice of structs (consider.Maybe), opened. -/
import Derived.Test.YtejkamgidhpcjaaRowS
import Derived.Test.YtejkamgidhpcjaaRowKit
import Derived.Test.YtejkamgidhpcjaaLaw12
namespace Go.Proofs.Ytejkamgidhpcjaa.CO
open Go.ChangeShapes Go.WideShapes Go.RowKit Go.Deep
set_option linter.unusedVariables false
theorem open_mbs {H : Type} {enc : TypeId × Value → H} {W : World} {base : Nat} {spare : Nat → Bool} {held : Bool} {a : Option Addr} {len cap : Nat} {d : DataW H} {ps : List MemPlace} {ts : List TypeId} {ds : List (DataW H)} {j : Nat}
    (hsz : (DataW.weightsEach Try.prog ts ds).all (· ≤ reachBytes) = true) (ht : ts[j]? = some 22) (hd : ds[j]? = some d)
    (h : DataW.Trod enc Try.prog W base spare held 22 (.slice a len cap) d ps) : ∃ xs : List Mb, len = xs.length ∧ Row W 0 a (xs.flatMap Mb.cells) ∧ (∀ o ∈ xs, Mb.I o) ∧ xs.length * 16 ≤ 140737488351232 :=
  open_rowS Mb.cells Mb.I 2 mb_len (by omega) hsz ht hd Try.underlying22 Try.underlying26 (by kernel_rfl) (by kernel_rfl) rfl (by kernel_rfl) (fun c n hf => by
    obtain ⟨v0, y0, c0, t0⟩ := hf 0 _ rfl
    obtain ⟨v1, y1, c1, t1⟩ := hf 1 _ rfl
    obtain ⟨x0, e0, _, w0⟩ := DataW.trod_int Try.underlying2 t0
    obtain ⟨x1, e1, _, w1⟩ := DataW.trod_int Try.underlying3 t1
    obtain rfl : v0 = _ := by simpa using e0
    obtain rfl : v1 = _ := by simpa using e1
    refine ⟨⟨x0, x1⟩, ⟨Cents.i64_wf w0, Cents.i64_wf w1⟩, fun j u hu => ?_⟩
    match j with
    | 0 => obtain rfl : _ = u := by simpa [Mb.cells] using hu
           exact c0
    | 1 => obtain rfl : _ = u := by simpa [Mb.cells] using hu
           exact c1
    | k + 2 => simp [Mb.cells] at hu) h
end Go.Proofs.Ytejkamgidhpcjaa.CO
