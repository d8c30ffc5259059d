/- The walk of the reference's By. -/
import Derived.Test.YtmijcgcppankcaaByMath
import Derived.Test.YtmijcgcppankcaaExactB
import Derived.Laws.OwnMore
import Derived.Laws.MakeOwn
namespace Go.Proofs.Ytmijcgcppankcaa.Exact
open Go.RowKit Go.Proofs.Ytmijcgcppankcaa.Cents
set_option linter.unusedVariables false
set_option linter.unusedSimpArgs false

/-- Digits in a block of one's own. -/
def DigB (w : World) (g : Nat) (out : List Int) : Prop := Blk w g 3 (ints out).toArray
theorem DigB.cell {w : World} {g : Nat} {out : List Int} (h : DigB w g out) {j : Nat} (hj : j < out.length) : w.cell? ⟨g, j, none⟩ = some (.int .i64 (EM.dig out j)) := by
  have := Blk.cell h j
  rw [this]
  simp [ints, EM.dig, List.getD_eq_getElem?_getD, List.getElem?_eq_getElem hj]
theorem DigB.frozen {w : World} {g : Nat} {out : List Int} (h : DigB w g out) (j : Nat) : w.frozen? ⟨g, j, none⟩ = false := Blk.frozen h j
theorem DigB.set {w : World} {g : Nat} {out : List Int} (h : DigB w g out) (j : Nat) (d : Int) : DigB (w.setCell ⟨g, j, none⟩ (.int .i64 d)) g (out.set j d) := by
  have := Blk.set_ h j (.int .i64 d)
  unfold DigB
  rw [show (ints (out.set j d)).toArray = (ints out).toArray.setIfInBounds j (.int .i64 d) by simp [ints, List.map_set]]
  exact this
theorem made_zero (w : World) (n : Nat) (hn : n ≤ 1000000) : (Instr.makeSlice 66 (.int .i64 (n : Int)) (.int .i64 (n : Int))).run Try.prog w = .ok (.slice (some ⟨w.heap.size, 0, none⟩) n n) (w.alloc (.cells (ints (List.replicate n 0)).toArray 3)) := by
  obtain ⟨i, z, h1, h2, h3, h4⟩ : ∃ i z, Try.prog.info? 3 = some i ∧ i.zero = some z ∧ i.size = 1 ∧ i.bytes = 8 := by
    have h : (Try.prog.info? 3).map (fun i => (i.zero, i.size, i.bytes)) = some (some (.int .i64 0), 1, 8) := by kernel_rfl
    obtain ⟨i, a, b, c, d⟩ := info_parts h
    exact ⟨i, _, a, b, c, d⟩
  have hz : z = .int .i64 0 := by
    have h : (Try.prog.info? 3).map (fun i => i.zero) = some (some (.int .i64 0)) := by kernel_rfl
    rw [h1] at h
    simp [h2] at h
    exact h
  have := run_makeSlice (P := Try.prog) w _ _ i z Try.underlying66 h1 h2 .i64 .i64 (n : Int) (n : Int) (by omega) (by omega) (by rw [h3]; simp; omega) (by rw [h4]; omega) (by omega)
  rw [this, h3, hz]
  simp only [Int.toNat_natCast, Nat.mul_one]
  have e : madeCells (Value.int .i64 0).cells n = (ints (List.replicate n 0)).toArray := by
    apply Array.ext
    · simp [madeCells, ints]
    · intro j h1 h2
      simp [madeCells, ints, Value.cells, Nat.mod_one]
  rw [e]

/-- In the loops of By: the boxes of both numbers, the digits of the product so far. -/
structure ByW (w0 : World) (F : Nat → Prop) (sa sb : Int) (A B : Option Addr) (a b : List Int) (na nb ca cb : Nat) (out : List Int) (wr : World) : Prop where
  bx : Box2 w0 sa sb A B na nb ca cb wr
  dg : DigB wr (w0.heap.size + 3) out
  ra : RowF wr (But F (w0.heap.size + 3)) A (ints a)
  rb : RowF wr (But F (w0.heap.size + 3)) B (ints b)
theorem ByW.set {w0 wr : World} {F : Nat → Prop} {sa sb : Int} {A B : Option Addr} {a b : List Int} {na nb ca cb : Nat} {out : List Int} (h : ByW w0 F sa sb A B a b na nb ca cb out wr) (j : Nat) (d : Int) :
    ByW w0 F sa sb A B a b na nb ca cb (out.set j d) (wr.setCell ⟨w0.heap.size + 3, j, none⟩ (.int .i64 d)) where
  bx := ⟨h.bx.xa.far (by simp) _, h.bx.xb.far (by simp) _, h.bx.res.far (by simp) _, h.bx.be.setCell (by simp) _⟩
  dg := h.dg.set j d
  ra := h.ra.setCell (fun hf => hf.2 rfl) _
  rb := h.rb.setCell (fun hf => hf.2 rfl) _
theorem ByW.drewN {w0 wr : World} {F : Nat → Prop} {sa sb : Int} {A B : Option Addr} {a b : List Int} {na nb ca cb : Nat} {out : List Int} (h : ByW w0 F sa sb A B a b na nb ca cb out wr) (n : Nat) : ByW w0 F sa sb A B a b na nb ca cb out (wr.drewN n) :=
  ⟨h.bx.later ((Later.refl _).drewN n), h.dg, h.ra, h.rb⟩

end Go.Proofs.Ytmijcgcppankcaa.Exact
