/- Rows: an argument that is a slice of structs (api.Item), opened. -/
import Derived.Test.YtbdhbongaikphaaRowS
import Derived.Test.YtbdhbongaikphaaRowKit
import Derived.Test.YtbdhbongaikphaaBookJ
namespace Go.Proofs.Ytbdhbongaikphaa.BK
open Go.ChangeShapes Go.WideShapes Go.RowKit Go.Deep
set_option linter.unusedVariables false
theorem open_its {H : Type} {enc : TypeId × Value → H} {W : World} {base : Nat} {spare : Nat → Bool} {held : Bool} {a : Option Addr} {len cap : Nat} {d : DataW H} {ps : List MemPlace} {ts : List TypeId} {ds : List (DataW H)} {j : Nat}
    (hsz : (DataW.weightsEach Try.prog ts ds).all (· ≤ reachBytes) = true) (ht : ts[j]? = some 22) (hd : ds[j]? = some d)
    (h : DataW.Trod enc Try.prog W base spare held 22 (.slice a len cap) d ps) : ∃ xs : List BK.It, len = xs.length ∧ Row W 0 a (xs.flatMap BK.It.cell) ∧ (∀ o ∈ xs, BK.ItI o) ∧ xs.length * 32 ≤ 140737488351232 :=
  open_rowS BK.It.cell BK.ItI 4 BK.it_len (by omega) hsz ht hd Try.underlying22 Try.underlying50 (by kernel_rfl) (by kernel_rfl) rfl (by kernel_rfl) (fun c n hf => by
    obtain ⟨v0, y0, c0, t0⟩ := hf 0 _ rfl
    obtain ⟨v1, y1, c1, t1⟩ := hf 1 _ rfl
    obtain ⟨v2, y2, c2, t2⟩ := hf 2 _ rfl
    obtain ⟨v3, y3, c3, t3⟩ := hf 3 _ rfl
    obtain ⟨x0, e0, _, w0⟩ := DataW.trod_int Try.underlying3 t0
    obtain ⟨x1, e1, _, w1⟩ := DataW.trod_int Try.underlying3 t1
    obtain ⟨x2, e2, _, w2⟩ := DataW.trod_int Try.underlying3 t2
    obtain ⟨x3, e3, _, w3⟩ := DataW.trod_int Try.underlying2 t3
    obtain rfl : v0 = _ := by simpa using e0
    obtain rfl : v1 = _ := by simpa using e1
    obtain rfl : v2 = _ := by simpa using e2
    obtain rfl : v3 = _ := by simpa using e3
    refine ⟨⟨x0, x1, x2, x3⟩, ⟨Cents.i64_wf w0, Cents.i64_wf w1, Cents.i64_wf w2, Cents.i64_wf w3⟩, fun j u hu => ?_⟩
    match j with
    | 0 => obtain rfl : _ = u := by simpa [BK.It.cell] using hu
           exact c0
    | 1 => obtain rfl : _ = u := by simpa [BK.It.cell] using hu
           exact c1
    | 2 => obtain rfl : _ = u := by simpa [BK.It.cell] using hu
           exact c2
    | 3 => obtain rfl : _ = u := by simpa [BK.It.cell] using hu
           exact c3
    | k + 4 => simp [BK.It.cell] at hu) h
end Go.Proofs.Ytbdhbongaikphaa.BK
