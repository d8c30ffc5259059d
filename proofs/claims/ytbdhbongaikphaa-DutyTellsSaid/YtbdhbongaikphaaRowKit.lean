/- What the rows want besides the kit: an argument that is a slice of whole numbers, opened; numbers within their kind. Over any program. -/
import Derived.SizedLaws
import Derived.OpenShut
import Derived.ChangeSlices
import Derived.Test.YtbdhbongaikphaaSum
namespace Go.Proofs.Ytbdhbongaikphaa.Cents
open Go.ChangeShapes Go.WideShapes Go.RowKit
set_option linter.unusedVariables false

theorem i64_wf {x : Int} (h : (Lit.int .i64 x).wf = true) : I64 x := by

  have h := bounds_i64 h
  unfold I64; omega

/-- An argument that is a slice of int64. -/
theorem open_row {H : Type} {enc : TypeId × Value → H} {P : Program} {W : World} {base : Nat} {spare : Nat → Bool} {held : Bool} {t e : TypeId} {a : Option Addr} {len cap : Nat} {d : DataW H} {ps : List MemPlace} {ts : List TypeId} {ds : List (DataW H)} {j : Nat}
    (hsz : (DataW.weightsEach P ts ds).all (· ≤ reachBytes) = true) (ht : ts[j]? = some t) (hd : ds[j]? = some d) (hu : P.underlying t = some (.slice e)) (he : P.underlying e = some (.int .i64)) (hc : P.cellsOf e = 1) (hB : P.bytesOf e = 8)
    (h : DataW.Trod enc P W base spare held t (.slice a len cap) d ps) : ∃ xs : List Int, len = xs.length ∧ Row W 0 a (ints xs) ∧ (∀ x ∈ xs, I64 x) ∧ xs.length * 8 ≤ 140737488351232 := by
  obtain ⟨fuel, hf⟩ := h
  rcases open_ints hu he hc hf with ⟨hcs, _⟩ | ⟨x, l, c, zs, hcs, _, hl, hm, hz, hx, hcell, hwz⟩
  · simp [Value.cells] at hcs
    obtain ⟨rfl, rfl, rfl⟩ := hcs
    exact ⟨[], rfl, Row.none_, by simp, by simp⟩
  · simp [Value.cells] at hcs
    obtain ⟨rfl, rfl, rfl⟩ := hcs
    obtain ⟨hx, _⟩ := Prod.mk.inj hx
    subst hx
    have z := sized_slice hsz ht hd hu
    rw [hB] at z
    have hl2 : len ≤ zs.length := by
      rw [hz]
      split
      · exact hl
      · exact Nat.le_refl _
    have h1 : (lits (H := H) .i64 (zs.take len)).length + (lits (H := H) .i64 (zs.drop len)).length = zs.length := by
      simp [lits]
      omega
    rw [h1] at z
    have e1 : (zs.take len).length = len := by rw [List.length_take]; omega
    refine ⟨zs.take len, e1.symm, fun _ => ⟨x, rfl, Nat.zero_le _, fun j u hu => ?_⟩, fun n hn => i64_wf (hwz n (List.mem_of_mem_take hn)), by rw [e1]; exact Nat.le_trans (Nat.mul_le_mul_right _ hl2) z⟩
    have hj : j < (zs.take len).length := by
      have := (List.getElem?_eq_some_iff.1 hu).1
      simpa [ints] using this
    rw [e1] at hj
    rw [hcell j (by omega)]
    simp only [ints, List.getElem?_map, List.getElem?_take, hj, if_true] at hu
    rw [List.getElem?_eq_getElem (show j < zs.length by omega)] at hu
    simp only [Option.map_some, Option.some.injEq] at hu
    rw [← hu, List.getD_eq_getElem?_getD, List.getElem?_eq_getElem (show j < zs.length by omega)]
    rfl
end Go.Proofs.Ytbdhbongaikphaa.Cents
