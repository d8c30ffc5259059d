/- The walks of net: change, Bill, Earn. -/
import Derived.Test.YtmijcgcppankcaaNetA
namespace Go.Proofs.Ytmijcgcppankcaa.Net
open Go.RowKit Go.Proofs.Ytmijcgcppankcaa.Cents
set_option linter.unusedVariables false
set_option linter.unusedSimpArgs false

theorem own_weak {w : World} {base base' e size n : Nat} {v : Value} {xs : List Value} (h : w.ownsRow base e size v n xs) (hb : base' ≤ base) : w.ownsRow base' e size v n xs := by
  refine ⟨h.1, ?_⟩
  rcases h.2 with hn | ⟨g, cap, cur, rfl, hb2, rest⟩
  · exact .inl hn
  · exact .inr ⟨g, cap, cur, rfl, by omega, rest⟩

/-- Postings, or why there are none. -/
def RetPs (w : World) (ps : List Post) (err : Int) (e : Ending) (w' : World) : Prop :=
  ∃ A c, e = .returned (.tuple #[.slice A ps.length c, .int .i64 err]) ∧ w'.ownsRow w.heap.size 48 3 (.slice A ps.length c) ps.length (cells ps) ∧ Below w.heap.size w w'
theorem RetPs.none_ {w w' : World} {err : Int} (hb : Below w.heap.size w w') : RetPs w [] err (.returned (.tuple #[.slice none 0 0, .int .i64 err])) w' := ⟨none, 0, rfl, World.ownsRow_nil _ _ _ _, hb⟩

section
variable (ct fb fr mb mr : Int) (w : World)
/-- What change tells: the postings, or why there are none. -/
def chgE : Int := if ct < 0 ∨ 40 ≤ ct ∨ fb < 0 ∨ fr < 0 then 1 else if ¬ I64 (fb + mb) ∨ ¬ I64 (fr + mr) then 3 else if fb + mb < 0 ∨ fr + mr < 0 then 1 else 0
def chgP : List Post := if chgE ct fb fr mb mr = 0 then chg ct fb fr (fb + mb) (fr + mr) else []
end
end Go.Proofs.Ytmijcgcppankcaa.Net
