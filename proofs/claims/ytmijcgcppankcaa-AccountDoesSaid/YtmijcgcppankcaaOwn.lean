/- A list that the call owns: what it is behind a store in it, or in a box. -/
import Derived.Test.YtmijcgcppankcaaApp0
import Derived.Test.YtmijcgcppankcaaAcc
namespace Go.Proofs.Ytmijcgcppankcaa.CO
open Go.RowKit Go.Proofs.Ytmijcgcppankcaa.Cents Go.Proofs.Ytmijcgcppankcaa.PO Go.Proofs.Ytmijcgcppankcaa.Exact
set_option linter.unusedVariables false
set_option linter.unusedSimpArgs false

theorem own_set {w : World} {base e g n cap : Nat} {xs : List Value} (h : w.ownsRow base e 1 (.slice (some ⟨g, 0, none⟩) n cap) n xs) (j : Nat) (u : Value) :
    (w.setCell ⟨g, j, none⟩ u).ownsRow base e 1 (.slice (some ⟨g, 0, none⟩) n cap) n (xs.set j u) := by
  obtain ⟨h1, h2⟩ := h
  refine ⟨by simpa using h1, ?_⟩
  rcases h2 with ⟨h2, _⟩ | ⟨g', cap', cur, hv, hg, hh, hn, hm, hs, ht⟩
  · cases h2
  · injection hv with e1 _ e3
    injection e1 with e1
    injection e1 with e1
    subst e1; subst e3
    refine .inr ⟨g, cap, cur.setIfInBounds j u, rfl, hg, (show Blk w g e cur from hh).set_ j u, hn, hm, by simpa using hs, ?_⟩
    rw [Array.toList_setIfInBounds, List.take_set, ht]
theorem own_cell {w : World} {base e g n cap : Nat} {xs : List Value} (h : w.ownsRow base e 1 (.slice (some ⟨g, 0, none⟩) n cap) n xs) {j : Nat} {u : Value} (hu : xs[j]? = some u) : w.cell? ⟨g, j, none⟩ = some u := by
  obtain ⟨ad, h1, _, h2⟩ := Row.of_own h (by decide) (by have := (List.getElem?_eq_some_iff.1 hu).1; omega)
  cases h1
  have := h2 j u hu
  rwa [addr_add, Nat.zero_add] at this
theorem own_free {w : World} {base e g n cap : Nat} {xs : List Value} (h : w.ownsRow base e 1 (.slice (some ⟨g, 0, none⟩) n cap) n xs) (j : Nat) : w.frozen? ⟨g, j, none⟩ = false := by
  rcases h.2 with ⟨h2, _⟩ | ⟨g', cap', cur, hv, hg, hh, hn, hm, hs, ht⟩
  · cases h2
  · injection hv with e1 _ e3
    injection e1 with e1
    injection e1 with e1
    subst e1
    exact (show Blk w g e cur from hh).frozen j
theorem own_block {w : World} {base e g n cap : Nat} {xs : List Value} (h : w.ownsRow base e 1 (.slice (some ⟨g, 0, none⟩) n cap) n xs) : base ≤ g ∧ g < w.heap.size := h.lt g rfl
theorem own_box {w : World} {base e t Q n : Nat} {cs : Array Value} {v : Value} {xs : List Value} (h : w.ownsRow base e 1 v n xs) (hb : Blk w Q t cs) (hte : t ≠ e) : some Q ≠ v.ownBlock := fun hv => by
  rcases h.2 with ⟨h2, _⟩ | ⟨g', cap', cur, hv', hg, hh, hn, hm, hs, ht⟩
  · subst h2; cases hv
  · subst hv'
    simp only [Value.ownBlock, Option.some.injEq] at hv
    subst hv
    rw [show w.heap[Q]? = _ from hb] at hh
    injection hh with hh
    injection hh with _ h3
    exact hte h3
theorem ints_set (xs : List Int) (j : Nat) (x : Int) : (ints xs).set j (.int .i64 x) = ints (xs.set j x) := by simp [ints, List.map_set]
theorem AllW.set {w0 w : World} {out : List Int} {g n cap : Nat} (h : AllW w0 out (.slice (some ⟨g, 0, none⟩) n cap) w) (hn : out.length = n) (j : Nat) (x : Int) : AllW w0 (out.set j x) (.slice (some ⟨g, 0, none⟩) n cap) (w.setCell ⟨g, j, none⟩ (.int .i64 x)) := by
  have ho := h.own
  rw [hn] at ho
  refine ⟨?_, h.be.setCell (own_block ho).1 _⟩
  rw [List.length_set, hn, ← ints_set]
  exact own_set ho j _
theorem AllW.cell {w0 w : World} {out : List Int} {g n cap : Nat} (h : AllW w0 out (.slice (some ⟨g, 0, none⟩) n cap) w) (hn : out.length = n) {j : Nat} (hj : j < n) : w.cell? ⟨g, j, none⟩ = some (.int .i64 (out.getD j 0)) := by
  have ho := h.own
  rw [hn] at ho
  refine own_cell ho ?_
  rw [show (ints out)[j]? = (out[j]?).map (Value.int .i64) by simp [ints], List.getElem?_eq_getElem (by omega)]
  simp [List.getD_eq_getElem?_getD, show j < out.length by omega]
theorem AllW.free {w0 w : World} {out : List Int} {g n cap : Nat} (h : AllW w0 out (.slice (some ⟨g, 0, none⟩) n cap) w) (hn : out.length = n) (j : Nat) : w.frozen? ⟨g, j, none⟩ = false := by
  have ho := h.own
  rw [hn] at ho
  exact own_free ho j
theorem AllW.form {w0 w : World} {out : List Int} {v : Value} {n : Nat} (h : AllW w0 out v w) (hn : out.length = n) (h1 : 1 ≤ n) : ∃ g cap, v = .slice (some ⟨g, 0, none⟩) n cap ∧ n ≤ cap := by
  have ho := h.own
  rw [hn] at ho
  rcases ho.2 with ⟨_, h2⟩ | ⟨g', cap', cur, hv', hg, hh, hm, _⟩
  · omega
  · exact ⟨g', cap', hv', hm⟩
theorem AllW.box {w0 w : World} {out : List Int} {v : Value} {Q : Nat} {cs : Array Value} (h : AllW w0 out v w) (hb : Blk w Q 68 cs) (hQ : w0.heap.size ≤ Q) (i : Nat) (u : Value) : AllW w0 out v (w.setCell ⟨Q, i, none⟩ u) :=
  ⟨ownsRow_setCell_other h.own (fun e => own_box h.own hb (by decide) e.symm) u, h.be.setCell hQ _⟩
theorem AllW.box2 {w0 w : World} {out : List Int} {v : Value} {Q : Nat} {cs : Array Value} (h : AllW w0 out v w) (hb : Blk w Q 68 cs) (hQ : w0.heap.size ≤ Q) (u u' : Value) : AllW w0 out v ((w.setCell ⟨Q, 0, none⟩ u).setCell ⟨Q, 1, none⟩ u') :=
  (h.box hb hQ 0 u).box (hb.set_ 0 u) hQ 1 u'
end Go.Proofs.Ytmijcgcppankcaa.CO
