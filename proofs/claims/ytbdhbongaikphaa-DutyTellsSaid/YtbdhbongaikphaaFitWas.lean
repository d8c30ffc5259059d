/- Fit, told by equations. -/
import Derived.Test.YtbdhbongaikphaaFit
namespace Go.Proofs.Ytbdhbongaikphaa.Exact
open Go.RowKit Go.Proofs.Ytbdhbongaikphaa.Cents
set_option linter.unusedVariables false
set_option linter.unusedSimpArgs false

theorem fit_was (v : Value) (n : Int) (k : Nat) (w : World) (h : Ex w (fun _ => True) v n k) (hk : k ≤ 90000) (hk7 : 7 ≤ k) (x y : Int) (hx : fitN n = x ∧ fitE n = y) :
    Calls Try.prog 22 #[v] w fun e w' => e = .returned (.tuple #[.int .i64 x, .int .i64 y]) ∧ Below w.heap.size w w' :=
  (fit_any v n k w h hk hk7).mono fun _ _ ⟨h1, h2⟩ => ⟨by rw [h1]; unfold fitT; rw [hx.1, hx.2], h2⟩
end Go.Proofs.Ytbdhbongaikphaa.Exact
