/- The walks of consider: within, wrong, sure, check, price. -/
import Derived.Test.YtmijcgcppankcaaConsiderMath
import Derived.Test.YtmijcgcppankcaaPartIs
import Derived.Test.YtmijcgcppankcaaRowF
namespace Go.Proofs.Ytmijcgcppankcaa.CO
open Go.RowKit Go.Proofs.Ytmijcgcppankcaa.Cents
set_option linter.unusedVariables false
set_option linter.unusedSimpArgs false

theorem alloc1 (w : World) (o : Obj) : Below w.heap.size w (w.alloc o) := (Below.refl _ _).alloc (Nat.le_refl _) _
def inB (n : Int) : Bool := decide (0 ≤ n) && decide (n ≤ 10000)
theorem bad_in (m : Mb) : Mb.bad m = !inB m.ch := by
  unfold Mb.bad inB
  by_cases h1 : m.ch < 0 <;> by_cases h2 : 10000 < m.ch <;> simp [h1, h2] <;> omega
def mcells (xs : List Mb) : List Value := xs.flatMap Mb.cells
theorem mb_len (m : Mb) : m.cells.length = 2 := rfl
theorem mb_cells {w : World} {A : Option Addr} {xs : List Mb} (hr : Row w 0 A (mcells xs)) {j : Nat} (h : j < xs.length) :
    ∃ ad, A = some ad ∧ w.cell? (ad.add (j * 2)) = some (.int .i64 xs[j].a) ∧ w.cell? ⟨(ad.add (j * 2)).block, (ad.add (j * 2)).off + 1, none⟩ = some (.int .i64 xs[j].ch) := by
  obtain ⟨ad, e, _, h0, hi⟩ := Row.elem mb_len (by omega) hr h
  exact ⟨ad, e, h0 _ rfl, hi 1 _ (by omega) rfl⟩
theorem take_any {xs : List Mb} {j : Nat} (h : j < xs.length) : anyW (xs.take (j + 1)) = (anyW (xs.take j) || Mb.bad xs[j]) := by
  unfold anyW
  rw [List.take_succ_eq_append_getElem h, List.any_append]
  simp
def IxRet (w : World) (b : Bool) (e : Ending) (w' : World) : Prop := ∃ r : Int, e = .returned (.int .i64 r) ∧ decide (0 ≤ r) = b ∧ Below w.heap.size w w'
end Go.Proofs.Ytmijcgcppankcaa.CO
