/- Rows: an argument that is a slice of structs (quitrentlaw10.Price), opened. -/
import Derived.Test.YtleocecfcamjnaaRowS
import Derived.Test.YtleocecfcamjnaaRowKit
import Derived.Test.YtleocecfcamjnaaBookJ
namespace Go.Proofs.Ytleocecfcamjnaa.BK
open Go.ChangeShapes Go.WideShapes Go.RowKit Go.Deep
set_option linter.unusedVariables false
theorem open_pzs {H : Type} {enc : TypeId × Value → H} {W : World} {base : Nat} {spare : Nat → Bool} {held : Bool} {a : Option Addr} {len cap : Nat} {d : DataW H} {ps : List MemPlace} {ts : List TypeId} {ds : List (DataW H)} {j : Nat}
    (hsz : (DataW.weightsEach Try.prog ts ds).all (· ≤ reachBytes) = true) (ht : ts[j]? = some 23) (hd : ds[j]? = some d)
    (h : DataW.Trod enc Try.prog W base spare held 23 (.slice a len cap) d ps) : ∃ xs : List BK.Pz, len = xs.length ∧ Row W 0 a (xs.flatMap BK.Pz.cell) ∧ (∀ o ∈ xs, BK.Pz.I o) ∧ xs.length * 24 ≤ 140737488351232 :=
  open_rowS BK.Pz.cell BK.Pz.I 3 BK.pz_len (by omega) hsz ht hd Try.underlying23 Try.underlying35 (by kernel_rfl) (by kernel_rfl) rfl (by kernel_rfl) (fun c n hf => by
    obtain ⟨v0, y0, c0, t0⟩ := hf 0 _ rfl
    obtain ⟨v1, y1, c1, t1⟩ := hf 1 _ rfl
    obtain ⟨v2, y2, c2, t2⟩ := hf 2 _ rfl
    obtain ⟨x0, e0, _, w0⟩ := DataW.trod_int Try.underlying3 t0
    obtain ⟨x1, e1, _, w1⟩ := DataW.trod_int Try.underlying3 t1
    obtain ⟨x2, e2, _, w2⟩ := DataW.trod_int Try.underlying2 t2
    obtain rfl : v0 = _ := by simpa using e0
    obtain rfl : v1 = _ := by simpa using e1
    obtain rfl : v2 = _ := by simpa using e2
    refine ⟨⟨x0, x1, x2⟩, ⟨Cents.i64_wf w0, Cents.i64_wf w1, Cents.i64_wf w2⟩, fun j u hu => ?_⟩
    match j with
    | 0 => obtain rfl : _ = u := by simpa [BK.Pz.cell] using hu
           exact c0
    | 1 => obtain rfl : _ = u := by simpa [BK.Pz.cell] using hu
           exact c1
    | 2 => obtain rfl : _ = u := by simpa [BK.Pz.cell] using hu
           exact c2
    | k + 3 => simp [BK.Pz.cell] at hu) h
end Go.Proofs.Ytleocecfcamjnaa.BK
