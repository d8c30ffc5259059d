/- The walks of the reference's Part and Rest. -/
import Derived.Test.YtmijcgcppankcaaOver
import Derived.Test.YtmijcgcppankcaaBy
import Derived.Test.YtmijcgcppankcaaFit
import Derived.Test.YtmijcgcppankcaaCentsPart
namespace Go.Proofs.Ytmijcgcppankcaa.Exact
open Go.RowKit Go.Proofs.Ytmijcgcppankcaa.Cents
set_option linter.unusedVariables false
set_option linter.unusedSimpArgs false

theorem prod_bound {a p : Int} (ha : I64 a) (hp : I64 p) : -(2 : Int) ^ 126 ≤ a * p ∧ a * p ≤ 2 ^ 126 := by
  have h1 : a.natAbs ≤ 9223372036854775808 := by have := ha.1; have := ha.2; omega
  have h2 : p.natAbs ≤ 9223372036854775808 := by have := hp.1; have := hp.2; omega
  have h3 := Nat.mul_le_mul h1 h2
  rw [← Int.natAbs_mul] at h3
  generalize a * p = x at *
  have e : (9223372036854775808 : Nat) * 9223372036854775808 = 2 ^ 126 := by decide +kernel
  rw [e] at h3
  have e2 : ((2 ^ 126 : Nat) : Int) = 2 ^ 126 := by decide +kernel
  omega
theorem p126 : (2 : Int) ^ 126 < 2 ^ 199 := by decide +kernel
theorem p199 : (2 : Int) ^ 199 + 9223372036854775808 < 2 ^ 200 := by decide +kernel
theorem over_ok {a p m : Int} (ha : I64 a) (hp : I64 p) (hm : I64 m) : -(a * p) + m < 2 ^ 200 ∧ a * p < 2 ^ 200 := by
  have h1 := prod_bound ha hp
  have h2 := p126
  have h3 := p199
  have h4 := hm.2
  omega
theorem fit_was (v : Value) (n : Int) (k : Nat) (w : World) (h : Ex w (fun _ => True) v n k) (hk : k ≤ 90000) (hk7 : 7 ≤ k) (x y : Int) (hx : fitN n = x ∧ fitE n = y) :
    Calls Try.prog 30 #[v] w fun e w' => e = .returned (.tuple #[.int .i64 x, .int .i64 y]) ∧ Below w.heap.size w w' :=
  (fit_any v n k w h hk hk7).mono fun _ _ ⟨h1, h2⟩ => ⟨by rw [h1]; unfold fitT; rw [hx.1, hx.2], h2⟩

end Go.Proofs.Ytmijcgcppankcaa.Exact
