/- The walk of the reference's Total. -/
import Derived.Test.YtbdhbongaikphaaFit
namespace Go.Proofs.Ytbdhbongaikphaa.Exact
open Go.RowKit Go.Proofs.Ytbdhbongaikphaa.Cents
set_option linter.unusedVariables false
set_option linter.unusedSimpArgs false

/-- In the loop of Total: the sum so far lies in its box. -/
structure TotW (w0 : World) (F : Nat → Prop) (s : Int) (ds : List Int) (E : Option Addr) (c k : Nat) (wr : World) : Prop where
  res : Blk wr w0.heap.size 64 #[.int .i64 0, .slice none 0 0]
  box : Blk wr (w0.heap.size + 1) 64 #[.int .i64 (EM.sgn s), .slice E ds.length c]
  row : RowF wr F E (ints ds)
  tells : EM.Tells ds s
  cap : ds.length ≤ c
  len : ds.length ≤ k
  be : Below w0.heap.size w0 wr
theorem TotW.ex {w0 wr : World} {F : Nat → Prop} {s : Int} {ds : List Int} {E : Option Addr} {c k : Nat} (h : TotW w0 F s ds E c k wr) : Ex wr F (.agg #[.int .i64 (EM.sgn s), .slice E ds.length c]) s k := ⟨ds, E, c, rfl, h.cap, h.len, h.row, h.tells⟩
theorem TotW.later {w0 wr w' : World} {F : Nat → Prop} {s : Int} {ds : List Int} {E : Option Addr} {c k : Nat} (h : TotW w0 F s ds E c k wr) (hl : Later wr w') : TotW w0 F s ds E c k w' :=
  ⟨h.res.below hl h.res.lt, h.box.below hl h.box.lt, h.row.below hl, h.tells, h.cap, h.len, h.be.trans (hl.mono h.be.size)⟩
theorem TotW.store {w0 wr : World} {F : Nat → Prop} {s s' : Int} {ds es : List Int} {E E' : Option Addr} {c c' k k' : Nat} (h : TotW w0 F s ds E c k wr) (hF : ¬ F (w0.heap.size + 1)) (hx : RowF wr F E' (ints es)) (ht : EM.Tells es s') (hc : es.length ≤ c') (hk : es.length ≤ k') :
    TotW w0 F s' es E' c' k' ((wr.setCell ⟨w0.heap.size + 1, 0, none⟩ (.int .i64 (EM.sgn s'))).setCell ⟨w0.heap.size + 1, 1, none⟩ (.slice E' es.length c')) where
  res := (h.res.far (by simp) _).far (by simp) _
  box := (h.box.set_ 0 _).set_ 1 _
  row := (hx.setCell hF _).setCell hF _
  tells := ht
  cap := hc
  len := hk
  be := (h.be.setCell (by simp) _).setCell (by simp) _
theorem sum_take {xs : List Int} {j : Nat} (h : j < xs.length) : (xs.take (j + 1)).sum = (xs.take j).sum + xs[j] := by rw [take_snoc h, List.sum_append]; simp

end Go.Proofs.Ytbdhbongaikphaa.Exact
