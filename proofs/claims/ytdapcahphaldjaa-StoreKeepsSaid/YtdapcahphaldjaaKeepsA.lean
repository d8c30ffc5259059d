/- The walk of the law StoreKeeps: its loops' relations, the first loops' rounds. -/
import Derived.Test.YtdapcahphaldjaaKeepsMath
import Derived.Test.YtdapcahphaldjaaLaw05
namespace Go.Proofs.Ytdapcahphaldjaa.Store
open Go.RowKit
set_option linter.unusedVariables false
set_option linter.unusedSimpArgs false

/-- A store, and nothing else changed since w0. -/
structure One (w0 : World) (S G n : Nat) (s : SS) (w : World) : Prop where
  st : StW S G n s w
  be : Below w0.heap.size w0 w
  hS : w0.heap.size ≤ S
  hG : w0.heap.size ≤ G
section
variable {w0 w w' : World} {S G n : Nat} {s s' : SS}
theorem One.later (h : One w0 S G n s w) (hb : Below w.heap.size w w') : One w0 S G n s w' := ⟨h.st.later hb, h.be.trans (hb.mono h.be.size), h.hS, h.hG⟩
theorem One.drew (h : One w0 S G n s w) : One w0 S G n s w.drew := ⟨h.st.drew, h.be.drew, h.hS, h.hG⟩
theorem One.drewN (h : One w0 S G n s w) (q : Nat) : One w0 S G n s (w.drewN q) := ⟨h.st.drewN q, ⟨h.be.os, h.be.tape, h.be.output, h.be.size, h.be.block⟩, h.hS, h.hG⟩
theorem One.set (h : One w0 S G n s w) (hst : StW S G n s' w') (hf : Fr (Two S G) w w') : One w0 S G n s' w' := ⟨hst, Fr.then_below h.be hf (two_above h.hS h.hG), h.hS, h.hG⟩
end
/-- Also the strings that were collected. -/
structure Was (w1 : World) (S G n : Nat) (s : SS) (l : List ByteArray) (v : Value) (w : World) : Prop where
  st : StW S G n s w
  own : w.ownsRow w1.heap.size 9 1 v l.length (strs l)
  be : Below w1.heap.size w1 w
section
variable {w1 w w' w3 : World} {S G n : Nat} {s s' : SS} {l : List ByteArray} {v v' : Value} {x : ByteArray} {o : Obj}
theorem Was.later (h : Was w1 S G n s l v w) (hb : Below w.heap.size w w') : Was w1 S G n s l v w' := ⟨h.st.later hb, own_fr h.own (Fr.later (S := fun _ => False) hb) (by simp), h.be.trans (hb.mono h.be.size)⟩
theorem Was.step (h : Was w1 S G n s l v w) (hS : S < w1.heap.size) (hG : G < w1.heap.size) (hown : w3.ownsRow w1.heap.size 9 1 v' (l.length + 1) (strs l ++ [.string x])) (hg : (w.alloc o).grownBy w3 v.ownBlock) : Was w1 S G n s (l ++ [x]) v' w3 := by
  have be : Below w1.heap.size w1 w3 := (h.be.alloc h.be.size _).grown hg (by simp; have := h.be.size; omega) (fun j hj => by have := (h.own.lt j hj).1; omega)
  have ne : ∀ k, k < w1.heap.size → some k ≠ v.ownBlock := fun k hk e => by have := (h.own.lt _ e.symm).1; omega
  refine ⟨⟨(h.st.bs.alloc _).grown hg (ne _ hS), (h.st.bg.alloc _).grown hg (ne _ hG), h.st.ne, h.st.len, h.st.all, h.st.lo, h.st.hi⟩, ?_, be⟩
  rw [List.length_append, show strs (l ++ [x]) = strs l ++ [.string x] by simp [strs]]
  exact hown
end
theorem op0 (s : SS) (at_ nn tt : Int) (b : ByteArray) (whole : Bool) : s.op ⟨0, at_, nn, tt, b, whole⟩ = (s.write at_ (OpV.mk 0 at_ nn tt b whole).block).1 := by simp [SS.op]
theorem op1 (s : SS) (at_ nn tt : Int) (b : ByteArray) (whole : Bool) : s.op ⟨1, at_, nn, tt, b, whole⟩ = s.fuse nn tt := by simp [SS.op]
theorem op2 (s : SS) (at_ nn tt : Int) (b : ByteArray) (whole : Bool) : s.op ⟨2, at_, nn, tt, b, whole⟩ = s.restart := by simp [SS.op]
theorem op3 (s : SS) (dd at_ nn tt : Int) (b : ByteArray) (whole : Bool) (h0 : dd ≠ 0) (h1 : dd ≠ 1) (h2 : dd ≠ 2) : s.op ⟨dd, at_, nn, tt, b, whole⟩ = s := by simp [SS.op, h0, h1, h2]
theorem nX (A B X : Nat) (hA : X < A) (hB : X < B) : ¬ Two A B X := fun e => by rcases e with e | e <;> omega
theorem nX2 (A B X : Nat) (hA : A < X) (hB : B < X) : ¬ Two A B X := fun e => by rcases e with e | e <;> omega
theorem own_two {S G g n cap : Nat} (h1 : g ≠ S) (h2 : g ≠ G) : ∀ k, (Value.slice (some ⟨g, 0, none⟩) n cap).ownBlock = some k → ¬ Two S G k := by
  intro k e
  have : g = k := by simpa [Value.ownBlock] using e
  subst this
  rintro (h | h)
  · exact h1 h
  · exact h2 h
end Go.Proofs.Ytdapcahphaldjaa.Store
