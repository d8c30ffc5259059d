/- An argument that is a slice of whole numbers, opened, with its capacity; parts of rows. -/
import Derived.Test.YtmijcgcppankcaaRowKit
import Derived.Test.YtmijcgcppankcaaIs01
namespace Go.Proofs.Ytmijcgcppankcaa.Cents
open Go.ChangeShapes Go.WideShapes Go.RowKit
set_option linter.unusedVariables false

theorem open_rowC {H : Type} {enc : TypeId × Value → H} {P : Program} {W : World} {base : Nat} {spare : Nat → Bool} {held : Bool} {t e : TypeId} {a : Option Addr} {len cap : Nat} {d : DataW H} {ps : List MemPlace} {ts : List TypeId} {ds : List (DataW H)} {j : Nat}
    (hsz : (DataW.weightsEach P ts ds).all (· ≤ reachBytes) = true) (ht : ts[j]? = some t) (hd : ds[j]? = some d) (hu : P.underlying t = some (.slice e)) (he : P.underlying e = some (.int .i64)) (hc : P.cellsOf e = 1) (hB : P.bytesOf e = 8)
    (h : DataW.Trod enc P W base spare held t (.slice a len cap) d ps) : ∃ xs : List Int, len = xs.length ∧ Row W 0 a (ints xs) ∧ (∀ x ∈ xs, I64 x) ∧ (xs.length * 8 ≤ 140737488351232 ∧ xs.length ≤ cap) := by
  obtain ⟨xs, h1, h2, h3, h4⟩ := open_row hsz ht hd hu he hc hB h
  refine ⟨xs, h1, h2, h3, h4, ?_⟩
  obtain ⟨fuel, hf⟩ := h
  rcases open_ints hu he hc hf with ⟨hcs, _⟩ | ⟨x, l, c, zs, hcs, _, hl, _⟩
  · simp [Value.cells] at hcs
    obtain ⟨rfl, rfl, rfl⟩ := hcs
    omega
  · simp [Value.cells] at hcs
    obtain ⟨rfl, rfl, rfl⟩ := hcs
    omega
theorem row_take {w : World} {b : Nat} {A : Option Addr} {xs : List Int} (h : Row w b A (ints xs)) (k : Nat) : Row w b A (ints (xs.take k)) := fun hn => by
  obtain ⟨ad, e, hb, hc⟩ := h (by simp [ints] at hn ⊢; omega)
  refine ⟨ad, e, hb, fun j u hu => hc j u ?_⟩
  simp only [ints, List.map_take] at hu ⊢
  rw [List.getElem?_take] at hu
  split at hu
  · exact hu
  · simp at hu
theorem row_drop {w : World} {b : Nat} {ad : Addr} {xs : List Int} (h : Row w b (some ad) (ints xs)) (k : Nat) : Row w b (some (ad.add k)) (ints (xs.drop k)) := fun hn => by
  obtain ⟨ad', e, hb, hc⟩ := h (by simp [ints] at hn ⊢; omega)
  cases e
  refine ⟨_, rfl, by unfold Addr.add; split <;> exact hb, fun j u hu => ?_⟩
  rw [Addr.add_add]
  refine hc _ u ?_
  simp only [ints, List.map_drop, List.getElem?_drop] at hu
  exact hu
end Go.Proofs.Ytmijcgcppankcaa.Cents
