/- A variable that holds an exact number, in a loop. -/
import Derived.Test.YtbdhbongaikphaaOverA
import Derived.Test.YtbdhbongaikphaaFitWas
namespace Go.Proofs.Ytbdhbongaikphaa.Exact
open Go.RowKit Go.Proofs.Ytbdhbongaikphaa.Cents
set_option linter.unusedVariables false
set_option linter.unusedSimpArgs false

/-- Block Q holds the exact number s, by at most k digits. -/
structure AccW (w0 : World) (Q : Nat) (x : XV) (s : Int) (k : Nat) (w : World) : Prop where
  bx : Blk w Q 64 #[.int .i64 x.s, .slice x.E x.l x.c]
  ex : Ex w (fun q => q ≠ Q) x.val s k
  be : Below w0.heap.size w0 w
  hQ : w0.heap.size ≤ Q
section
variable {w0 w w' : World} {Q k k' : Nat} {x x' : XV} {s s' : Int}
theorem AccW.later (h : AccW w0 Q x s k w) (hb : Below w.heap.size w w') : AccW w0 Q x s k w' := ⟨h.bx.below hb h.bx.lt, h.ex.below hb, h.be.trans (hb.mono h.be.size), h.hQ⟩
theorem AccW.drewN (h : AccW w0 Q x s k w) (n : Nat) : AccW w0 Q x s k (w.drewN n) := h.later ((Later.refl w).drewN n)
theorem AccW.drew (h : AccW w0 Q x s k w) : AccW w0 Q x s k w.drew := h.later (Later.refl w).drew
theorem AccW.new (h : AccW w0 Q x s k w) : New w (fun q => q ≠ Q) := fun q hq => by have := h.bx.lt; omega
theorem AccW.set (h : AccW w0 Q x s k w) (v : XV) (hx : Ex w (fun q => q ≠ Q) v.val s' k') : AccW w0 Q v s' k' ((w.setCell ⟨Q, 0, none⟩ (.int .i64 v.s)).setCell ⟨Q, 1, none⟩ (.slice v.E v.l v.c)) := by
  refine ⟨?_, (hx.setCell (fun h => h rfl) _).setCell (fun h => h rfl) _, (h.be.setCell h.hQ _).setCell h.hQ _, h.hQ⟩
  have := (h.bx.set_ 0 (.int .i64 v.s)).set_ 1 (.slice v.E v.l v.c)
  simpa using this
theorem AccW.start (w0 w : World) (v : XV) (n : Int) (k : Nat) (h : Below w0.heap.size w0 w) (hx : Ex w (fun _ => True) v.val n k) : AccW w0 w.heap.size v n k (w.alloc (.cells #[.int .i64 v.s, .slice v.E v.l v.c] 64)) :=
  ⟨Blk.new _ _ _, (hx.weak (G := fun q => q ≠ w.heap.size) (fun q _ hl => by omega)).below (Below.alloc1 _ _), h.trans ((Below.alloc1 _ _).mono h.size), h.size⟩
theorem AccW.zero (w0 w : World) (k : Nat) (h : Below w0.heap.size w0 w) : AccW w0 w.heap.size ⟨0, none, 0, 0⟩ 0 k (w.alloc (.cells #[.int .i64 0, .slice none 0 0] 64)) :=
  AccW.start w0 w ⟨0, none, 0, 0⟩ 0 k h ⟨[], none, 0, rfl, Nat.le_refl _, Nat.zero_le _, RowF.none_, EM.Tells.zero⟩
end
end Go.Proofs.Ytbdhbongaikphaa.Exact
