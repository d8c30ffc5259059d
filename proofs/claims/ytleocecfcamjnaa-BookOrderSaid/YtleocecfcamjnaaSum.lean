/- The walk of cents.Sum. -/
import Derived.Test.YtleocecfcamjnaaSumMath
import Derived.Test.YtleocecfcamjnaaMem
import Derived.Deep.LoopGhost
import Derived.RegionTactic
import Derived.BigRegion
namespace Go.Proofs.Ytleocecfcamjnaa.Cents
open Go.RowKit
set_option linter.unusedVariables false
set_option linter.unusedSimpArgs false

theorem info_i64 : (Try.prog.info? 2).map (fun i => (i.zero, i.size, i.bytes)) = some (some (.int .i64 0), 1, 8) := by kernel_rfl

def ints (xs : List Int) : List Value := xs.map (Value.int .i64)
theorem ints_len (xs : List Int) : (ints xs).length = xs.length := by simp [ints]

theorem own_ne {w : World} {base e size n : Nat} {v : Value} {xs : List Value} (h : w.ownsRow base e size v n xs) {g : Nat} (hg : g < base) : some g ≠ v.ownBlock := fun he => by
  have := (h.lt g he.symm).1; omega
theorem own_other {w w1 : World} {base e size n : Nat} {v v2 : Value} {xs : List Value} (h : w.ownsRow base e size v n xs) (hg : w.grownBy w1 v2.ownBlock) (hne : v.ownBlock = none ∨ v.ownBlock ≠ v2.ownBlock) : w1.ownsRow base e size v n xs := h.kept hg hne
theorem take_snoc {xs : List Int} {k : Nat} (hk : k < xs.length) : xs.take (k + 1) = xs.take k ++ [xs[k]] := by rw [List.take_succ_eq_append_getElem hk]

theorem one_cell (k : IntKind) (x : Int) : ∀ u ∈ [Value.int k x], u.oneCell' = true := by simp [Value.oneCell']

theorem own_slice {w : World} {base e size n : Nat} {v : Value} {xs : List Value} (h : w.ownsRow base e size v n xs) : ∃ A c, v = .slice A n c ∧ n ≤ c := by
  rcases h.2 with ⟨rfl, rfl⟩ | ⟨g, cap, cur, rfl, _, _, hn, _⟩
  · exact ⟨none, 0, rfl, Nat.le_refl _⟩
  · exact ⟨_, _, rfl, hn⟩

theorem Row.init {w : World} {base : Nat} {A : Option Addr} {xs : List Int} {x : Int} (h : Row w base A (ints (xs ++ [x]))) : Row w base A (ints xs) := by
  have := h.take xs.length
  simpa [ints] using this
theorem Row.last {w : World} {base : Nat} {A : Option Addr} {xs : List Int} {x : Int} (h : Row w base A (ints (xs ++ [x]))) : ∃ ad, A = some ad ∧ w.cell? (ad.add xs.length) = some (.int .i64 x) := by
  obtain ⟨ad, e, _, hc⟩ := h.at_ (k := xs.length) (by simp [ints])
  refine ⟨ad, e, ?_⟩
  rw [hc]; simp [ints]

theorem snoc_or {α : Type} (l : List α) : l = [] ∨ ∃ l' x, l = l' ++ [x] := by
  rcases List.eq_nil_or_concat l with h | ⟨a, b, h⟩
  · exact .inl h
  · exact .inr ⟨a, b, by simpa using h⟩

/-- What Sum tells of a sum. -/
def sumN (t : Int) : Int := if I64 t then t else 0
def sumE (t : Int) : Int := if I64 t then 0 else 3
def sumT (t : Int) : Value := .tuple #[.int .i64 (sumN t), .int .i64 (sumE t)]
theorem sumT_yes {t : Int} (h : I64 t) : Value.tuple #[.int .i64 t, .int .i64 0] = sumT t := by unfold sumT sumN sumE; rw [if_pos h, if_pos h]
theorem sumT_no {t : Int} (h : ¬ I64 t) : Value.tuple #[.int .i64 0, .int .i64 3] = sumT t := by unfold sumT sumN sumE; rw [if_neg h, if_neg h]

end Go.Proofs.Ytleocecfcamjnaa.Cents
