/- The walk of the reference's Over, of what isn't below 0. -/
import Derived.Test.YtmijcgcppankcaaOverA
import Derived.Test.YtmijcgcppankcaaMem2
namespace Go.Proofs.Ytmijcgcppankcaa.Exact
open Go.RowKit Go.Proofs.Ytmijcgcppankcaa.Cents
set_option linter.unusedVariables false
set_option linter.unusedSimpArgs false

/-- The blocks that digits may lie in: none of the boxes, nor the row g. -/
def Far (F : Nat → Prop) (B g : Nat) (q : Nat) : Prop := F q ∧ q ≠ B ∧ q ≠ B + 2 ∧ q ≠ g
theorem New.far {w w' : World} {F : Nat → Prop} {g : Nat} (h : New w F) (hs : w.heap.size + 3 ≤ w'.heap.size) (hg : g < w'.heap.size) : New w' (Far F w.heap.size g) := fun q hq => ⟨h q (by omega), by omega, by omega, by omega⟩

/-- In the loop that doubles. -/
structure UpW (w0 : World) (F : Nat → Prop) (sa sb : Int) (A B : Option Addr) (na nb ca cb : Nat) (a b : Int) (k : Nat) (g cap : Nat) (xs : List XV) (wr : World) : Prop where
  bx : Box2 w0 sa sb A B na nb ca cb wr
  own : wr.ownsRow (w0.heap.size + 3) 68 2 (.slice (some ⟨g, 0, none⟩) xs.length cap) xs.length (xcells xs)
  ds : Dbls wr (Far F w0.heap.size g) b k xs
  ea : Ex wr (Far F w0.heap.size g) (.agg #[.int .i64 sa, .slice A na ca]) a k
theorem UpW.later {w0 wr w' : World} {F : Nat → Prop} {sa sb : Int} {A B : Option Addr} {na nb ca cb : Nat} {a b : Int} {k g cap : Nat} {xs : List XV} (h : UpW w0 F sa sb A B na nb ca cb a b k g cap xs wr) (hl : Later wr w') : UpW w0 F sa sb A B na nb ca cb a b k g cap xs w' :=
  ⟨h.bx.later hl, own_fr h.own (Fr.later (S := fun _ => False) hl) (by simp), h.ds.below hl, h.ea.below hl⟩
theorem UpW.elem {w0 wr : World} {F : Nat → Prop} {sa sb : Int} {A B : Option Addr} {na nb ca cb : Nat} {a b : Int} {k g cap : Nat} {xs : List XV} (h : UpW w0 F sa sb A B na nb ca cb a b k g cap xs wr) {i : Nat} (hi : i < xs.length) :
    wr.cell? ⟨g, i * 2, none⟩ = some (.int .i64 xs[i].s) ∧ wr.cell? ⟨g, i * 2 + 1, none⟩ = some (.slice xs[i].E xs[i].l xs[i].c) := by
  have hc := h.own.cells (g := g) rfl
  constructor
  · have := hc (i * 2 + 0) _ (xcells_at hi 0 (by omega))
    rwa [addr_add, Nat.zero_add] at this
  · have := hc (i * 2 + 1) _ (xcells_at hi 1 (by omega))
    rwa [addr_add, Nat.zero_add] at this
/-- The comparison, as a region that only reads wants it. -/
theorem quiet_least (F : Nat → Prop) (va vb : Value) (sa sb : Int) (A B : Option Addr) (na nb ca cb : Nat) (m n : Int) (k l : Nat) (w : World) (d : Nat) (ha : Ex w F (.agg #[.int .i64 sa, .slice A na ca]) m k) (hb : Ex w F (.agg #[.int .i64 sb, .slice B nb cb]) n l) (hk : k ≤ 1000000) (hl : l ≤ 1000000) (h0 : 0 ≤ m) (h1 : 0 ≤ n) :
    Calls Try.prog 45 #[.slice A na ca, .slice B nb cb] (w.drewN d) fun e w'' => e = .returned (.bool (decide (m < n))) ∧ ∃ q, w'' = w.drewN q := by
  obtain ⟨da, A', ca', ea, h2, h3, h4, h5⟩ := ha
  obtain ⟨db, B', cb', eb, g2, g3, g4, g5⟩ := hb
  simp only [Value.agg.injEq, Array.mk.injEq, List.cons.injEq, Value.slice.injEq, and_true, true_and] at ea eb
  obtain ⟨_, rfl, rfl, rfl⟩ := ea
  obtain ⟨_, rfl, rfl, rfl⟩ := eb
  refine Calls.quiet_of ((least_any F _ _ da db _ _ (w.drewN d) (h4.drewN d) (g4.drewN d) h5.digs g5.digs (by omega) (by omega)).mono ?_)
  rintro e w' ⟨rfl, q, hq⟩
  refine ⟨?_, q, hq⟩
  rw [h5.val, g5.val, show ((m.natAbs : Int)) = m by omega, show ((n.natAbs : Int)) = n by omega]

def slLen : Value → Nat
  | .slice _ n _ => n
  | _ => 0
theorem UpW.step {w0 w1 w2 : World} {F : Nat → Prop} {sa sb : Int} {A B : Option Addr} {na nb ca cb : Nat} {a b : Int} {k g cap g2 cap2 n : Nat} {xs : List XV} {x : XV} (h : UpW w0 F sa sb A B na nb ca cb a b k g cap xs w1) (hn : xs.length = n)
    (hx : Ex w1 (Far F w0.heap.size g) x.val (b * 2 ^ xs.length) (k + xs.length))
    (hown : w2.ownsRow (w0.heap.size + 3) 68 2 (.slice (some ⟨g2, 0, none⟩) (n + 1) cap2) (n + 1) (xcells xs ++ x.cells)) (hg : w1.grownBy w2 (some g)) (hat : some g = some g2 ∨ g2 = w1.heap.size) :
    UpW w0 F sa sb A B na nb ca cb a b k g2 cap2 (xs ++ [x]) w2 := by
  have hgg : w0.heap.size + 3 ≤ g := (h.own.lt g rfl).1
  have hgl : g < w1.heap.size := (h.own.lt g rfl).2
  have far : ∀ q, Far F w0.heap.size g q → (some g : Option Nat) ≠ some q := fun q hq e => hq.2.2.2 (by simpa using e.symm)
  have to : ∀ q, Far F w0.heap.size g q → q < w1.heap.size → Far F w0.heap.size g2 q := fun q hq hl => by
    refine ⟨hq.1, hq.2.1, hq.2.2.1, ?_⟩
    rcases hat with e | e
    · have : g = g2 := by simpa using e
      rw [← this]; exact hq.2.2.2
    · omega
  refine ⟨⟨h.bx.xa.grown hg (by simp; omega), h.bx.xb.grown hg (by simp; omega), h.bx.res.grown hg (by simp; omega), ?_⟩, ?_, ?_, ?_⟩
  · refine ⟨hg.os.trans h.bx.be.os, hg.tape.trans h.bx.be.tape, hg.output.trans h.bx.be.output, Nat.le_trans h.bx.be.size hg.size, fun q hq => (hg.block q (by have := h.bx.be.size; omega) (by simp; omega)).trans (h.bx.be.block q hq)⟩
  · rw [List.length_append, hn, xcells_app, xcells_one]; exact hown
  · exact (((h.ds.snoc hx).weak (G := fun q => Far F w0.heap.size g q ∧ q < w1.heap.size) (fun q hq hl => ⟨hq, hl⟩)).grown hg (fun q hq => far q hq.1)).weak (fun q hq _ => to q hq.1 hq.2)
  · exact (((h.ea).weak (G := fun q => Far F w0.heap.size g q ∧ q < w1.heap.size) (fun q hq hl => ⟨hq, hl⟩)).grown hg (fun q hq => far q hq.1)).weak (fun q hq _ => to q hq.1 hq.2)

/-- On the way down: a's box holds x, block Q holds q; the row g holds the doubles. -/
structure DnW (w0 : World) (F : Nat → Prop) (b : Int) (k : Nat) (g cap : Nat) (xs : List XV) (Q : Nat) (vx vq : XV) (x q : Int) (wr : World) : Prop where
  xa : Blk wr w0.heap.size 68 #[.int .i64 vx.s, .slice vx.E vx.l vx.c]
  res : Blk wr (w0.heap.size + 2) 68 #[.int .i64 0, .slice none 0 0]
  bq : Blk wr Q 68 #[.int .i64 vq.s, .slice vq.E vq.l vq.c]
  own : wr.ownsRow (w0.heap.size + 3) 68 2 (.slice (some ⟨g, 0, none⟩) xs.length cap) xs.length (xcells xs)
  ds : Dbls wr (But (Far F w0.heap.size g) Q) b k xs
  ex : Ex wr (But (Far F w0.heap.size g) Q) vx.val x 70
  eq : Ex wr (But (Far F w0.heap.size g) Q) vq.val q 70
  be : Below w0.heap.size w0 wr
  gq : g < Q
section
variable {w0 wr w' : World} {F : Nat → Prop} {b : Int} {k g cap Q : Nat} {xs : List XV} {vx vq : XV} {x q : Int}
theorem DnW.gl (h : DnW w0 F b k g cap xs Q vx vq x q wr) : w0.heap.size + 3 ≤ g := (h.own.lt g rfl).1
theorem DnW.later (h : DnW w0 F b k g cap xs Q vx vq x q wr) (hl : Later wr w') : DnW w0 F b k g cap xs Q vx vq x q w' :=
  ⟨h.xa.below hl h.xa.lt, h.res.below hl h.res.lt, h.bq.below hl h.bq.lt, own_fr h.own (Fr.later (S := fun _ => False) hl) (by simp), h.ds.below hl, h.ex.below hl, h.eq.below hl, h.be.trans (hl.mono h.be.size), h.gq⟩
theorem DnW.elem (h : DnW w0 F b k g cap xs Q vx vq x q wr) {i : Nat} (hi : i < xs.length) :
    wr.cell? ⟨g, i * 2, none⟩ = some (.int .i64 xs[i].s) ∧ wr.cell? ⟨g, i * 2 + 1, none⟩ = some (.slice xs[i].E xs[i].l xs[i].c) := by
  have hc := h.own.cells (g := g) rfl
  constructor
  · have := hc (i * 2 + 0) _ (xcells_at hi 0 (by omega))
    rwa [addr_add, Nat.zero_add] at this
  · have := hc (i * 2 + 1) _ (xcells_at hi 1 (by omega))
    rwa [addr_add, Nat.zero_add] at this
theorem own_set {w : World} {base e size n : Nat} {v : Value} {xs : List Value} (h : w.ownsRow base e size v n xs) {p : Addr} (hv : ∀ k, v.ownBlock = some k → k ≠ p.block) (u : Value) : (w.setCell p u).ownsRow base e size v n xs :=
  own_fr h ((Fr.refl (fun k => k = p.block) w).setCell (fun _ => rfl) u) hv
theorem DnW.new (h : DnW w0 F b k g cap xs Q vx vq x q wr) (hF : New w0 F) : New wr (But (Far F w0.heap.size g) Q) := fun j hj => by
  have h1 := h.be.size
  have h2 := h.bq.lt
  have h3 := h.gl
  have h4 := h.gq
  exact ⟨⟨hF j (by omega), by omega, by omega, by omega⟩, by omega⟩
theorem DnW.setQ (h : DnW w0 F b k g cap xs Q vx vq x q wr) (v' : XV) (q' : Int) (hq : Ex wr (But (Far F w0.heap.size g) Q) v'.val q' 70) :
    DnW w0 F b k g cap xs Q vx v' x q' ((wr.setCell ⟨Q, 0, none⟩ (.int .i64 v'.s)).setCell ⟨Q, 1, none⟩ (.slice v'.E v'.l v'.c)) := by
  have h3 := h.gl
  have h4 := h.gq
  have n1 : ∀ q, But (Far F w0.heap.size g) Q q → q ≠ Q := fun q hq => hq.2
  have no : ¬ But (Far F w0.heap.size g) Q Q := fun h => h.2 rfl
  refine ⟨(h.xa.far (by simp; omega) _).far (by simp; omega) _, (h.res.far (by simp; omega) _).far (by simp; omega) _, ?_, own_set (own_set h.own (fun k e => ?_) _) (fun k e => ?_) _, (h.ds.setCell no _).setCell no _, (h.ex.setCell no _).setCell no _, (hq.setCell no _).setCell no _, (h.be.setCell (by simp; omega) _).setCell (by simp; omega) _, h.gq⟩
  · have := (h.bq.set_ 0 (.int .i64 v'.s)).set_ 1 (.slice v'.E v'.l v'.c)
    simpa using this
  · have : g = k := by simpa [Value.ownBlock] using e
    simp; omega
  · have : g = k := by simpa [Value.ownBlock] using e
    simp; omega
theorem DnW.setA (h : DnW w0 F b k g cap xs Q vx vq x q wr) (v' : XV) (x' : Int) (hx : Ex wr (But (Far F w0.heap.size g) Q) v'.val x' 70) :
    DnW w0 F b k g cap xs Q v' vq x' q ((wr.setCell ⟨w0.heap.size, 0, none⟩ (.int .i64 v'.s)).setCell ⟨w0.heap.size, 1, none⟩ (.slice v'.E v'.l v'.c)) := by
  have h3 := h.gl
  have h4 := h.gq
  have no : ¬ But (Far F w0.heap.size g) Q w0.heap.size := fun h => h.1.2.1 rfl
  refine ⟨?_, (h.res.far (by simp) _).far (by simp) _, (h.bq.far (by simp; omega) _).far (by simp; omega) _, own_set (own_set h.own (fun k e => ?_) _) (fun k e => ?_) _, (h.ds.setCell no _).setCell no _, (hx.setCell no _).setCell no _, (h.eq.setCell no _).setCell no _, (h.be.setCell (by simp) _).setCell (by simp) _, h.gq⟩
  · have := (h.xa.set_ 0 (.int .i64 v'.s)).set_ 1 (.slice v'.E v'.l v'.c)
    simpa using this
  · have : g = k := by simpa [Value.ownBlock] using e
    simp; omega
  · have : g = k := by simpa [Value.ownBlock] using e
    simp; omega
theorem UpW.down {w0 wr : World} {F : Nat → Prop} {sa sb : Int} {A B : Option Addr} {na nb ca cb : Nat} {a b : Int} {k g cap : Nat} {xs : List XV} (h : UpW w0 F sa sb A B na nb ca cb a b k g cap xs wr) (ha : (a.natAbs : Int) < 1000 ^ 70) :
    DnW w0 F b k g cap xs wr.heap.size ⟨sa, A, na, ca⟩ ⟨0, none, 0, 0⟩ a 0 (wr.alloc (.cells #[.int .i64 0, .slice none 0 0] 68)) := by
  have hgl := (h.own.lt g rfl).2
  have hu := h.later (Below.alloc1 wr (.cells #[.int .i64 0, .slice none 0 0] 68))
  have be := Below.alloc1 wr (.cells #[.int .i64 0, .slice none 0 0] 68)
  refine ⟨hu.bx.xa, hu.bx.res, Blk.new _ _ _, hu.own, ((h.ds.weak (G := But (Far F w0.heap.size g) wr.heap.size) (fun q hq hl => ⟨hq, by omega⟩)).below be), (((h.ea.weak (G := But (Far F w0.heap.size g) wr.heap.size) (fun q hq hl => ⟨hq, by omega⟩)).below be)).fewer ha, ?_, hu.bx.be, hgl⟩
  exact ⟨[], none, 0, rfl, Nat.le_refl _, Nat.zero_le _, RowF.none_, EM.Tells.zero⟩
end
end Go.Proofs.Ytmijcgcppankcaa.Exact
