/- What the rows want besides the kit: an argument that is a slice of structs, opened. Over any program. -/
import Derived.SizedLaws
import Derived.OpenShut
import Derived.ChangeSlices
import Derived.Deep.Slices
import Derived.Deep.Fields
import Derived.ChangeSame
import Derived.Test.YtbdhbongaikphaaRowF
namespace Go.Proofs.Ytbdhbongaikphaa
open Go.ChangeShapes Go.WideShapes Go.RowKit Go.Deep
set_option linter.unusedVariables false

section
variable {H : Type} {enc : TypeId × Value → H} {P : Program} {w : World} {base : Nat} {spare : Nat → Bool} {held : Bool}
theorem open_slice_fields {t e : TypeId} {fs : Array Field} {fuel : Nat} {cs : List Value} {x : DataW H × List MemPlace} (ht : P.underlying t = some (.slice e)) (he : P.underlying e = some (.struct fs))
    (hone : oneCellFields P fs = true) (hC : P.cellsOf e = fs.size) (h : DataW.trod enc P w base spare held fuel t cs = some x) :
    (cs = [.slice none 0 0] ∧ x = (.nil, [])) ∨
    ∃ (a : Addr) (len cap m : Nat) (D : Nat → DataW H) (Pl : Nat → List MemPlace), cs = [.slice (some a) len cap] ∧ base ≤ a.block ∧ len ≤ cap ∧ cap ≤ maxLen ∧ m = (if spare a.block then cap else len) ∧
      x = (.slice ((List.range len).map D) ((List.range (m - len)).map fun j => D (len + j)), MemPlace.row a (m * fs.size) ++ (List.range m).flatMap Pl) ∧
      ∀ i, i < m → ∃ (ys : List (DataW H × List MemPlace)) (n : Nat), D i = .agg (ys.map (·.1)) ∧ Pl i = ys.flatMap (·.2) ∧ ys.length = fs.size ∧
        ∀ (j : Nat) (f : Field), fs[j]? = some f → ∃ (v : Value) (y : DataW H × List MemPlace), w.cell? (a.add (i * fs.size + j)) = some v ∧ ys[j]? = some y ∧ DataW.trod enc P w base spare held n f.type [v] = some y := by
  rcases open_slice ht h with h0 | ⟨a, len, cap, m, n, D, Pl, hcs, hb, hl, hm, hmm, hx, hi⟩
  · exact .inl h0
  · refine .inr ⟨a, len, cap, m, D, Pl, hcs, hb, hl, hm, hmm, by rw [hC] at hx; exact hx, fun i him => ?_⟩
    obtain ⟨cs', hc, ht'⟩ := hi i him
    rw [hC] at hc
    obtain ⟨ys, n', hn', hy, hlen, hyl, hf⟩ := DataW.trod_struct he ht'
    obtain ⟨_, hcl, hat⟩ := World.cells?_some hc
    simp only [Prod.mk.injEq] at hy
    refine ⟨ys, n', hy.1, hy.2, hyl, fun j f hj => ?_⟩
    obtain ⟨ho, hk⟩ := hone_of hone j f hj
    have hjl : j < fs.size := (Array.getElem?_eq_some_iff.1 hj).1
    have hcell := hat j hjl
    have hv : cs'[j]? = some (cs'[j]'(by omega)) := List.getElem?_eq_getElem (by omega)
    have h1 := hf j f hj
    rw [ho, hk] at h1
    have hone' : (cs'.drop j).take 1 = [cs'[j]'(by omega)] := by
      rw [List.drop_eq_getElem_cons (by omega)]
      rfl
    rw [hone'] at h1
    have hys : ys[j]? = some (ys[j]'(by omega)) := List.getElem?_eq_getElem (by omega)
    refine ⟨_, _, ?_, hys, h1.trans hys⟩
    rw [← Go.Deep.add_add, hcell, hv]
end

/-- What is had of each index is had as a list. -/
theorem list_of {α : Type} (Q : Nat → α → Prop) (n : Nat) (h : ∀ i, i < n → ∃ x, Q i x) : ∃ xs : List α, xs.length = n ∧ ∀ i x, xs[i]? = some x → Q i x := by
  induction n with
  | zero => exact ⟨[], rfl, fun i x hx => by simp at hx⟩
  | succ n ih =>
    obtain ⟨xs, hl, hq⟩ := ih (fun i hi => h i (by omega))
    obtain ⟨x, hx⟩ := h n (by omega)
    refine ⟨xs ++ [x], by simp [hl], fun i y hy => ?_⟩
    by_cases c : i < xs.length
    · rw [List.getElem?_append_left c] at hy; exact hq i y hy
    · rw [List.getElem?_append_right (by omega)] at hy
      have hi : i - xs.length = 0 := by
        have := (List.getElem?_eq_some_iff.1 hy).1
        simp at this; omega
      rw [hi] at hy
      have : x = y := by simpa using hy
      rw [← this, show i = n by omega]; exact hx

/-- An argument that is a slice of structs of k one-cell fields. -/
theorem open_rowS {α : Type} (f : α → List Value) (Q : α → Prop) (k : Nat) (hf : ∀ x, (f x).length = k) (hk : 0 < k) {H : Type} {enc : TypeId × Value → H} {P : Program} {W : World} {base : Nat} {spare : Nat → Bool} {held : Bool} {t e B : TypeId} {fs : Array Field} {a : Option Addr} {len cap : Nat} {d : DataW H} {ps : List MemPlace} {ts : List TypeId} {ds : List (DataW H)} {j : Nat}
    (hsz : (DataW.weightsEach P ts ds).all (· ≤ reachBytes) = true) (ht : ts[j]? = some t) (hd : ds[j]? = some d) (hu : P.underlying t = some (.slice e)) (he : P.underlying e = some (.struct fs)) (hone : oneCellFields P fs = true) (hC : P.cellsOf e = fs.size) (hfs : fs.size = k) (hB : P.bytesOf e = B)
    (hdec : ∀ (c : Nat → Value → Prop) (n : Nat), (∀ (j : Nat) (g : Field), fs[j]? = some g → ∃ (v : Value) (y : DataW H × List MemPlace), c j v ∧ DataW.trod enc P W base spare held n g.type [v] = some y) → ∃ x, Q x ∧ ∀ j u, (f x)[j]? = some u → c j u)
    (h : DataW.Trod enc P W base spare held t (.slice a len cap) d ps) : ∃ xs : List α, len = xs.length ∧ Row W 0 a (xs.flatMap f) ∧ (∀ x ∈ xs, Q x) ∧ xs.length * B ≤ 140737488351232 := by
  obtain ⟨fuel, hfu⟩ := h
  rcases open_slice_fields hu he hone hC hfu with ⟨hcs, _⟩ | ⟨x, l, c, m, D, Pl, hcs, _, hl, hm, hmm, hx, hi⟩
  · simp [Value.cells] at hcs
    obtain ⟨rfl, rfl, rfl⟩ := hcs
    exact ⟨[], rfl, Row.none_, by simp, by simp⟩
  · simp [Value.cells] at hcs
    obtain ⟨rfl, rfl, rfl⟩ := hcs
    obtain ⟨hx, _⟩ := Prod.mk.inj hx
    subst hx
    have z := sized_slice hsz ht hd hu
    rw [hB] at z
    simp only [List.length_map, List.length_range] at z
    have hlm : len ≤ m := by rw [hmm]; split <;> omega
    obtain ⟨xs, hxl, hq⟩ := list_of (fun i y => Q y ∧ ∀ j u, (f y)[j]? = some u → W.cell? (x.add (i * k + j)) = some u) len (fun i hil => by
      obtain ⟨ys, n, _, _, _, hg⟩ := hi i (by omega)
      refine hdec (fun j u => W.cell? (x.add (i * k + j)) = some u) n (fun j g hj => ?_)
      obtain ⟨v, y, h1, _, h3⟩ := hg j g hj
      rw [hfs] at h1
      exact ⟨v, y, h1, h3⟩)
    refine ⟨xs, hxl.symm, fun _ => ⟨x, rfl, Nat.zero_le _, fun q u hu => ?_⟩, fun y hy => ?_, ?_⟩
    · have hql : q < xs.length * k := by
        have := (List.getElem?_eq_some_iff.1 hu).1
        rwa [flat_len hf] at this
      have h1 : q / k < xs.length := Nat.div_lt_of_lt_mul (by rw [Nat.mul_comm]; exact hql)
      have h2 : q % k < k := Nat.mod_lt _ hk
      have h3 : q / k * k + q % k = q := by rw [Nat.mul_comm]; exact Nat.div_add_mod q k
      have h4 := flat_at hf h1 (q % k) h2
      rw [h3, hu] at h4
      have := (hq (q / k) xs[q / k] (List.getElem?_eq_getElem h1)).2 (q % k) u h4.symm
      rwa [h3] at this
    · obtain ⟨i, hil, e⟩ := List.getElem_of_mem hy
      exact (hq i y (by rw [List.getElem?_eq_getElem hil, e])).1
    · rw [hxl]
      exact Nat.le_trans (Nat.mul_le_mul_right _ (by omega)) z
end Go.Proofs.Ytbdhbongaikphaa
