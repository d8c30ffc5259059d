/- The walks of net: lay. -/
import Derived.Test.YtmijcgcppankcaaCents
import Derived.Test.YtmijcgcppankcaaSum
import Derived.Test.YtmijcgcppankcaaMem2
import Derived.Deep.RegionLaw
namespace Go.Proofs.Ytmijcgcppankcaa.Net
open Go.RowKit Go.Proofs.Ytmijcgcppankcaa.Cents
set_option linter.unusedVariables false
set_option linter.unusedSimpArgs false

theorem info_post : (Try.prog.info? 48).map (fun i => (i.zero, i.size, i.bytes)) = some (some (.agg #[.int .i64 0, .int .i64 0, .int .i64 0]), 3, 24) := by kernel_rfl
theorem E_post : ElemT Try.prog 32 48 3 24 := .mk' Try.underlying32 info_post rfl (by decide)

/-- A posting: account, contract, amount. -/
structure Post where
  acc : Int
  ct : Int
  amt : Int
deriving DecidableEq
def Post.cells (p : Post) : List Value := [.int .i64 p.acc, .int .i64 p.ct, .int .i64 p.amt]
def cells (ps : List Post) : List Value := ps.flatMap Post.cells
theorem cells_len (ps : List Post) : (cells ps).length = ps.length * 3 := by
  induction ps with
  | nil => rfl
  | cons p ps ih => simp only [cells, List.flatMap_cons, List.length_append] at ih ⊢; rw [ih]; simp [Post.cells]; omega
theorem cells_append (a b : List Post) : cells (a ++ b) = cells a ++ cells b := by simp [cells]
theorem cells_one (p : Post) : cells [p] = p.cells := by simp [cells]

/-- What lay lays. -/
def layP (ct : Int) (acc amt : Int) : List Post := if amt = 0 then [] else [⟨acc, ct, amt⟩]

/-! ### Sides -/
def liab (b r : Int) : Int := if 0 < b - r then b - r else 0
def asset (b r : Int) : Int := if 0 < r - b then r - b else 0
/-! ### turn -/
/-- What a change lays. -/
def chg (ct fb fr tb tr : Int) : List Post := layP ct 0 (tb - fb) ++ layP ct 1 (liab fb fr - liab tb tr) ++ layP ct 2 (asset tb tr - asset fb fr) ++ layP ct 3 (fr - tr)

theorem layP_len (ct acc amt : Int) : (layP ct acc amt).length ≤ 1 := by unfold layP; split <;> simp
end Go.Proofs.Ytmijcgcppankcaa.Net
