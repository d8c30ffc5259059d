/- Plain numbers for the prices of what may come. -/
import Derived.Test.YtmijcgcppankcaaCentsPart
namespace Go.Proofs.Ytmijcgcppankcaa.CO
open Go.Proofs.Ytmijcgcppankcaa.Cents
set_option linter.unusedVariables false
set_option linter.unusedSimpArgs false

/-- What may come: an amount, a chance. -/
structure Mb where
  a : Int
  ch : Int
def Mb.cells (m : Mb) : List Value := [.int .i64 m.a, .int .i64 m.ch]
def Mb.I (m : Mb) : Prop := I64 m.a ∧ I64 m.ch
def Mb.bad (m : Mb) : Bool := decide (m.ch < 0) || decide (10000 < m.ch)
def anyW (l : List Mb) : Bool := l.any Mb.bad
def Mb.sure (m : Mb) (b : Int) : Bool := if m.a < 0 then decide (10000 - b < m.ch) else decide (b ≤ m.ch)
def checkE (f : Int) (l : List Mb) (b : Int) : Int := if 32 < l.length then 4 else if f < 0 ∨ b < 0 ∨ 10000 < b ∨ anyW l = true then 1 else 0
def sures (l : List Mb) (b : Int) : List Int := (l.filter (fun m => m.sure b)).map Mb.a
def likelyS (f : Int) (l : List Mb) (b : Int) : Int := f + (sures l b).sum
def prods (l : List Mb) : Int := (l.map fun m => m.a * m.ch).sum
def meanS (f : Int) (l : List Mb) : Int := f + prods l / 10000
def priceN (s : Int) : Int := if I64 s then (if s < 0 then 0 else s) else 0
def priceE (s : Int) : Int := if I64 s then (if s < 0 then 1 else 0) else 3
def likelyN (f : Int) (l : List Mb) (b : Int) : Int := if checkE f l b = 0 then priceN (likelyS f l b) else 0
def likelyE (f : Int) (l : List Mb) (b : Int) : Int := if checkE f l b = 0 then priceE (likelyS f l b) else checkE f l b
def meanN (f : Int) (l : List Mb) : Int := if checkE f l 0 = 0 then priceN (meanS f l) else 0
def meanE (f : Int) (l : List Mb) : Int := if checkE f l 0 = 0 then priceE (meanS f l) else checkE f l 0

theorem check_ok {f : Int} {l : List Mb} {b : Int} (h : checkE f l b = 0) : l.length ≤ 32 ∧ 0 ≤ f ∧ 0 ≤ b ∧ b ≤ 10000 ∧ ∀ m ∈ l, 0 ≤ m.ch ∧ m.ch ≤ 10000 := by
  unfold checkE at h
  split at h
  · omega
  · split at h
    · omega
    · rename_i h1 h2
      refine ⟨by omega, by omega, by omega, by omega, fun m hm => ?_⟩
      have h3 : anyW l = false := by
        cases hb : anyW l
        · rfl
        · exact absurd (.inr (.inr (.inr hb))) h2
      unfold anyW at h3
      rw [List.any_eq_false] at h3
      have := h3 m hm
      simp [Mb.bad] at this
      omega
/-! Parts and rests, one after the other. -/
def parts (l : List Mb) : List Int := l.map fun m => m.a * m.ch / 10000
def rests (l : List Mb) : Int := (l.map fun m => m.a * m.ch % 10000).sum
theorem prods_cons (m : Mb) (l : List Mb) : prods (m :: l) = m.a * m.ch + prods l := by simp [prods]
theorem parts_rests (l : List Mb) : prods l = 10000 * (parts l).sum + rests l := by
  induction l with
  | nil => rfl
  | cons m l ih =>
    have h := Int.mul_ediv_add_emod (m.a * m.ch) 10000
    rw [prods_cons]
    unfold parts rests at *
    simp only [List.map_cons, List.sum_cons]
    rw [ih, Int.mul_add]
    omega
theorem mean_is (f : Int) (l : List Mb) : meanS f l = f + (parts l).sum + rests l / 10000 := by
  unfold meanS
  rw [parts_rests, Int.add_comm (10000 * _), Int.add_mul_ediv_left _ _ (by omega)]
  omega
theorem rests_range (l : List Mb) : 0 ≤ rests l ∧ rests l ≤ 10000 * l.length := by
  induction l with
  | nil => simp [rests]
  | cons m l ih =>
    have h1 := Int.emod_nonneg (m.a * m.ch) (show (10000 : Int) ≠ 0 by omega)
    have h2 := Int.emod_lt_of_pos (m.a * m.ch) (show (0 : Int) < 10000 by omega)
    unfold rests at *
    simp only [List.map_cons, List.sum_cons, List.length_cons]
    omega
theorem parts_snoc (l : List Mb) (m : Mb) : parts (l ++ [m]) = parts l ++ [m.a * m.ch / 10000] := by simp [parts]
theorem rests_snoc (l : List Mb) (m : Mb) : rests (l ++ [m]) = rests l + m.a * m.ch % 10000 := by simp [rests]
theorem sures_snoc (l : List Mb) (m : Mb) (b : Int) : sures (l ++ [m]) b = if m.sure b = true then sures l b ++ [m.a] else sures l b := by
  unfold sures
  rw [List.filter_append]
  by_cases h : m.sure b = true <;> simp [h]
theorem sures_len (l : List Mb) (b : Int) : (sures l b).length ≤ l.length := by
  unfold sures
  rw [List.length_map]
  exact List.length_filter_le _ _
theorem sures_mem {l : List Mb} {b : Int} (h : ∀ m ∈ l, Mb.I m) : ∀ x ∈ sures l b, I64 x := fun x hx => by
  unfold sures at hx
  rw [List.mem_map] at hx
  obtain ⟨m, hm, rfl⟩ := hx
  exact (h m (List.mem_filter.1 hm).1).1
end Go.Proofs.Ytmijcgcppankcaa.CO
