/- The walks of consider: check, price, Likely, Mean. -/
import Derived.Test.YtmijcgcppankcaaConsiderA
namespace Go.Proofs.Ytmijcgcppankcaa.CO
open Go.RowKit Go.Proofs.Ytmijcgcppankcaa.Cents
set_option linter.unusedVariables false
set_option linter.unusedSimpArgs false

/-- The amounts that were collected. -/
structure AllW (w0 : World) (out : List Int) (v : Value) (w : World) : Prop where
  own : w.ownsRow w0.heap.size 2 1 v out.length (ints out)
  be : Below w0.heap.size w0 w
theorem AllW.later {w0 w w' : World} {out : List Int} {v : Value} (h : AllW w0 out v w) (hb : Below w.heap.size w w') : AllW w0 out v w' :=
  ⟨own_fr h.own (Fr.later (S := fun _ => False) hb) (by simp), h.be.trans (hb.mono h.be.size)⟩
theorem AllW.drewN {w0 w : World} {out : List Int} {v : Value} (h : AllW w0 out v w) (q : Nat) : AllW w0 out v (w.drewN q) := ⟨h.own, ⟨h.be.os, h.be.tape, h.be.output, h.be.size, h.be.block⟩⟩
theorem AllW.step {w0 w w1 : World} {out : List Int} {v v' : Value} {x : Int} {o : Obj} (h : AllW w0 out v w) (hown : w1.ownsRow w0.heap.size 2 1 v' (out.length + 1) (ints out ++ [.int .i64 x])) (hg : (w.alloc o).grownBy w1 v.ownBlock) : AllW w0 (out ++ [x]) v' w1 := by
  refine ⟨?_, (h.be.alloc h.be.size _).grown hg (by simp; have := h.be.size; omega) (fun j hj => by have := (h.own.lt j hj).1; omega)⟩
  rw [List.length_append, show ints (out ++ [x]) = ints out ++ [.int .i64 x] by simp [ints]]
  exact hown
theorem AllW.row {w0 w : World} {out : List Int} {A : Option Addr} {c : Nat} (h : AllW w0 out (.slice A out.length c) w) : Row w 0 A (ints out) := (Row.of_own h.own (by decide)).weak (Nat.zero_le _)
theorem AllW.start {w0 w : World} (f : Int) (h : Below w0.heap.size w0 w) : AllW w0 [f] (.slice (some ⟨w.heap.size, 0, none⟩) 1 1) (w.alloc (.cells #[.int .i64 f] 2)) :=
  ⟨World.ownsRow_lit _ #[.int .i64 f] 1 h.size (by decide) rfl, h.alloc h.size _⟩

end Go.Proofs.Ytmijcgcppankcaa.CO
