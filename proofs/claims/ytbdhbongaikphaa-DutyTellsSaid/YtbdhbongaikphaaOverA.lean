/- Rows of exact numbers, for the reference's Over. -/
import Derived.Test.YtbdhbongaikphaaOverMath
import Derived.Test.YtbdhbongaikphaaExactB
import Derived.Laws.OwnMore
namespace Go.Proofs.Ytbdhbongaikphaa.Exact
open Go.RowKit Go.Proofs.Ytbdhbongaikphaa.Cents
set_option linter.unusedVariables false
set_option linter.unusedSimpArgs false

theorem info_ex : (Try.prog.info? 64).map (fun i => (i.zero, i.size, i.bytes)) = some (some (.agg #[.int .i64 0, .slice none 0 0]), 2, 32) := by kernel_rfl
/-- An exact number as it lies. -/
structure XV where
  s : Int
  E : Option Addr
  l : Nat
  c : Nat
def XV.val (x : XV) : Value := .agg #[.int .i64 x.s, .slice x.E x.l x.c]
def XV.cells (x : XV) : List Value := [.int .i64 x.s, .slice x.E x.l x.c]
theorem Ex.xv {w : World} {F : Nat → Prop} {v : Value} {n : Int} {k : Nat} (h : Ex w F v n k) : ∃ x : XV, v = x.val := by
  obtain ⟨ds, A, c, rfl, _⟩ := h
  exact ⟨⟨_, A, ds.length, c⟩, rfl⟩
theorem Ex.any {w : World} {F : Nat → Prop} {v : Value} {n : Int} {k k' : Nat} (h : Ex w F v n k) (hk : k ≤ k') : Ex w (fun _ => True) v n k' := (h.weak fun _ _ _ => trivial).more hk
def xcells (xs : List XV) : List Value := xs.flatMap XV.cells
theorem xcells_len (xs : List XV) : (xcells xs).length = xs.length * 2 := by
  induction xs with
  | nil => rfl
  | cons p ps ih => simp only [xcells, List.flatMap_cons, List.length_append] at ih ⊢; rw [ih]; simp [XV.cells]; omega
theorem xcells_app (a b : List XV) : xcells (a ++ b) = xcells a ++ xcells b := by simp [xcells]
theorem xcells_one (p : XV) : xcells [p] = p.cells := by simp [xcells]
theorem xv_len (x : XV) : x.cells.length = 2 := rfl
theorem xcells_at {xs : List XV} {j : Nat} (h : j < xs.length) (i : Nat) (hi : i < 2) : (xcells xs)[j * 2 + i]? = xs[j].cells[i]? := by
  induction xs generalizing j with
  | nil => simp at h
  | cons x xs ih =>
    cases j with
    | zero => simp only [xcells, List.flatMap_cons]; rw [List.getElem?_append_left (by rw [xv_len]; omega)]; simp
    | succ j =>
      simp only [xcells, List.flatMap_cons]
      rw [List.getElem?_append_right (by rw [xv_len]; omega), xv_len, show (j + 1) * 2 + i - 2 = j * 2 + i by omega]
      simpa [xcells] using ih (j := j) (by simpa using h)

/-- The doubles: b * 2^0, b * 2^1, .. -/
def Dbls (w : World) (F : Nat → Prop) (b : Int) (k : Nat) (xs : List XV) : Prop := ∀ (i : Nat) (h : i < xs.length), Ex w F xs[i].val (b * 2 ^ i) (k + i)
theorem Dbls.below {w w' : World} {F : Nat → Prop} {b : Int} {k : Nat} {xs : List XV} (h : Dbls w F b k xs) (hb : Below w.heap.size w w') : Dbls w' F b k xs := fun i hi => (h i hi).below hb
theorem Dbls.weak {w : World} {F G : Nat → Prop} {b : Int} {k : Nat} {xs : List XV} (h : Dbls w F b k xs) (hF : ∀ k, F k → k < w.heap.size → G k) : Dbls w G b k xs := fun i hi => (h i hi).weak hF
theorem Dbls.snoc {w : World} {F : Nat → Prop} {b : Int} {k : Nat} {xs : List XV} {x : XV} (h : Dbls w F b k xs) (hx : Ex w F x.val (b * 2 ^ xs.length) (k + xs.length)) : Dbls w F b k (xs ++ [x]) := fun i hi => by
  by_cases c : i < xs.length
  · rw [List.getElem_append_left c]; exact h i c
  · have e : i = xs.length := by simp at hi; omega
    subst e
    rw [List.getElem_append_right (Nat.le_refl _)]
    simpa using hx
/-- A number lies as before where just a block that isn't its own has changed. -/
theorem RowF.grown {w w' : World} {F : Nat → Prop} {A : Option Addr} {xs : List Value} {row : Option Nat} (h : RowF w F A xs) (hg : w.grownBy w' row) (hr : ∀ k, F k → row ≠ some k) : RowF w' F A xs :=
  h.keep fun p hp u hu => by
    have hlt := cell_lt hu
    have := World.grownBy.cell_far hg p hlt (fun e => hr _ hp e.symm)
    rw [this]; exact hu
theorem Ex.grown {w w' : World} {F : Nat → Prop} {v : Value} {n : Int} {k : Nat} {row : Option Nat} (h : Ex w F v n k) (hg : w.grownBy w' row) (hr : ∀ k, F k → row ≠ some k) : Ex w' F v n k := by
  obtain ⟨ds, A, c, h1, h2, h3, h4, h5⟩ := h
  exact ⟨ds, A, c, h1, h2, h3, RowF.grown h4 hg hr, h5⟩
theorem Dbls.grown {w w' : World} {F : Nat → Prop} {b : Int} {k : Nat} {xs : List XV} {row : Option Nat} (h : Dbls w F b k xs) (hg : w.grownBy w' row) (hr : ∀ k, F k → row ≠ some k) : Dbls w' F b k xs := fun i hi => (h i hi).grown hg hr
theorem Ex.setCell {w : World} {F : Nat → Prop} {v : Value} {n : Int} {k : Nat} (h : Ex w F v n k) {p : Addr} (hp : ¬ F p.block) (u : Value) : Ex (w.setCell p u) F v n k := by
  obtain ⟨ds, A, c, h1, h2, h3, h4, h5⟩ := h
  exact ⟨ds, A, c, h1, h2, h3, h4.setCell hp u, h5⟩
theorem Dbls.setCell {w : World} {F : Nat → Prop} {b : Int} {k : Nat} {xs : List XV} (h : Dbls w F b k xs) {p : Addr} (hp : ¬ F p.block) (u : Value) : Dbls (w.setCell p u) F b k xs := fun i hi => (h i hi).setCell hp u
end Go.Proofs.Ytbdhbongaikphaa.Exact
