/- What sums of exact numbers and of amounts answer, by given results. -/
import Derived.Test.YtbdhbongaikphaaTotal
import Derived.Test.YtbdhbongaikphaaPartIs
namespace Go.Proofs.Ytbdhbongaikphaa.Cents
open Go.RowKit Go.Proofs.Ytbdhbongaikphaa.Exact
set_option linter.unusedVariables false
set_option linter.unusedSimpArgs false

theorem fit_is (v : Value) (n : Int) (k : Nat) (w : World) (h : Ex w (fun _ => True) v n k) (hk : k ≤ 90000) (hk7 : 7 ≤ k) (x y : Int) (hx : fitN n = x ∧ fitE n = y) :
    Calls Try.prog 22 #[v] w fun e w' => e = .returned (.tuple #[.int .i64 x, .int .i64 y]) ∧ Below w.heap.size w w' :=
  (fit_any v n k w h hk hk7).mono fun _ _ ⟨h1, h2⟩ => ⟨by rw [h1]; unfold fitT; rw [hx.1, hx.2], h2⟩
theorem add_is (a b : Int) (w : World) (ha : I64 a) (hb : I64 b) (x y : Int) (hx : fitN (a + b) = x ∧ fitE (a + b) = y) :
    Calls Try.prog 33 #[.int .i64 a, .int .i64 b] w fun e w' => e = .returned (.tuple #[.int .i64 x, .int .i64 y]) ∧ w = w' :=
  (add_any a b w ha hb).mono fun _ _ ⟨h1, h2⟩ => ⟨by rw [h1]; unfold addV; unfold fitN fitE at hx; by_cases c : I64 (a + b) <;> simp only [c, if_true, if_false] at hx ⊢ <;> rw [← hx.1, ← hx.2], h2⟩
theorem of_is (n : Int) (w : World) (hn : I64 n) : Calls Try.prog 21 #[.int .i64 n] w (RetEx w (fun _ => True) n 7) := of_any _ n w (fun _ _ => trivial) hn

end Go.Proofs.Ytbdhbongaikphaa.Cents
