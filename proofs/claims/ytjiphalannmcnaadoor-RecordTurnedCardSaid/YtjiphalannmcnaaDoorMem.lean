/- Words for memory: a row of cells that reads as a list; a block that is known whole. Over any program. -/
import Derived.Below
import Derived.Laws.OwnMore
import Derived.Deep.AppendLies
import Derived.Deep.Draws
import Derived.Deep.OwnRows
import Derived.OwnWalk
import Derived.Laws.AppendOwn
import Derived.Laws.Rows
import Derived.WalkKit
import Derived.WalkSmall
import Derived.Lib.Hide
import Derived.Maps.AppendAt
namespace Go.Proofs.YtjiphalannmcnaaDoor
open Go.RowKit
set_option linter.unusedVariables false

theorem block_add (a : Addr) (n : Nat) : (a.add n).block = a.block := by unfold Addr.add; split <;> rfl
theorem add_add (a : Addr) (i j : Nat) : (a.add i).add j = a.add (i + j) := by
  unfold Addr.add
  by_cases hi : i = 0 <;> by_cases hj : j = 0 <;> simp [hi, hj, Nat.add_assoc]
theorem add_zero_ (a : Addr) : a.add 0 = a := rfl

/-- The slice at A reads as the cells xs, which lie in a block from 'base' on. -/
def Row (w : World) (base : Nat) (A : Option Addr) (xs : List Value) : Prop :=
  0 < xs.length → ∃ ad, A = some ad ∧ base ≤ ad.block ∧ ∀ j u, xs[j]? = some u → w.cell? (ad.add j) = some u

section
variable {w w' : World} {base base' : Nat} {A : Option Addr} {xs : List Value}
theorem Row.none_ : Row w base A [] := fun h => absurd h (by simp)
theorem Row.at_ {k : Nat} (h : Row w base A xs) (hk : k < xs.length) : ∃ ad, A = some ad ∧ base ≤ ad.block ∧ w.cell? (ad.add k) = some xs[k] := by
  obtain ⟨ad, e, hb, hc⟩ := h (by omega)
  exact ⟨ad, e, hb, hc k _ (List.getElem?_eq_getElem hk)⟩
theorem Row.weak (h : Row w base A xs) (hb : base' ≤ base) : Row w base' A xs := fun hn => by
  obtain ⟨ad, e, h1, hc⟩ := h hn
  exact ⟨ad, e, by omega, hc⟩
theorem Row.keep (h : Row w base A xs) (hk : ∀ p : Addr, base ≤ p.block → ∀ u, w.cell? p = some u → w'.cell? p = some u) : Row w' base A xs := fun hn => by
  obtain ⟨ad, e, hb, hc⟩ := h hn
  exact ⟨ad, e, hb, fun j u hu => hk _ (by rw [block_add]; exact hb) u (hc j u hu)⟩
theorem cell_lt {p : Addr} {u : Value} (h : w.cell? p = some u) : p.block < w.heap.size := World.block_lt_of_cell? w p h
theorem cell_below {B : Nat} (hb : Below B w w') {p : Addr} {u : Value} (h : w.cell? p = some u) (hB : p.block < B) : w'.cell? p = some u := (hb.cell hB).trans h
theorem cell_below' (hb : Below w.heap.size w w') {p : Addr} {u : Value} (h : w.cell? p = some u) : w'.cell? p = some u := cell_below hb h (cell_lt h)
theorem Row.below (h : Row w base A xs) (hb : Below w.heap.size w w') : Row w' base A xs := h.keep fun _ _ _ hu => cell_below' hb hu
theorem Row.setCell (h : Row w base A xs) {p : Addr} (hp : p.block < base) (u : Value) : Row (w.setCell p u) base A xs :=
  h.keep fun q hq v hv => (World.cell?_setCell_other w p q u (fun e => by subst e; omega)).trans hv
theorem Row.take (h : Row w base A xs) (k : Nat) : Row w base A (xs.take k) := fun hn => by
  have hl : (xs.take k).length ≤ xs.length := by rw [List.length_take]; omega
  obtain ⟨ad, e, hb, hc⟩ := h (by omega)
  refine ⟨ad, e, hb, fun j u hu => hc j u ?_⟩
  rw [List.getElem?_take] at hu
  split at hu
  · exact hu
  · cases hu
theorem Row.drew (h : Row w base A xs) : Row w.drew base A xs := h
theorem Row.drewN (h : Row w base A xs) (n : Nat) : Row (w.drewN n) base A xs := h
theorem Row.of_own {e : TypeId} {size n c : Nat} (h : w.ownsRow base e size (.slice A n c) n xs) (hn : 0 < size) : Row w base A xs := fun hl => by
  have hpos : 0 < n := by
    rcases Nat.eq_zero_or_pos n with h0 | h0
    · have := h.1; subst h0; simp at this; subst this; simp at hl
    · exact h0
  obtain ⟨g, cap, hv, hb, hlt⟩ := h.form hpos
  have hA : A = some ⟨g, 0, none⟩ := by injection hv
  subst hA
  exact ⟨_, rfl, hb, h.cells (g := g) rfl⟩
end

/-- The slice at A reads as the cells xs, which lie in a block of which F holds. -/
def RowF (w : World) (F : Nat → Prop) (A : Option Addr) (xs : List Value) : Prop :=
  0 < xs.length → ∃ ad, A = some ad ∧ F ad.block ∧ ∀ j u, xs[j]? = some u → w.cell? (ad.add j) = some u
section
variable {w w' : World} {F G : Nat → Prop} {A : Option Addr} {xs : List Value}
theorem RowF.none_ : RowF w F A [] := fun h => absurd h (by simp)
theorem RowF.row (h : RowF w F A xs) : Row w 0 A xs := fun hn => by
  obtain ⟨ad, e, _, hc⟩ := h hn
  exact ⟨ad, e, Nat.zero_le _, hc⟩
theorem Row.rowF {base : Nat} (h : Row w base A xs) (hF : ∀ k, base ≤ k → k < w.heap.size → F k) : RowF w F A xs := fun hn => by
  obtain ⟨ad, e, hb, hc⟩ := h hn
  refine ⟨ad, e, hF _ hb ?_, hc⟩
  have := hc 0 xs[0] (List.getElem?_eq_getElem hn)
  have := cell_lt this
  rwa [block_add] at this
theorem RowF.weak (h : RowF w F A xs) (hF : ∀ k, F k → k < w.heap.size → G k) : RowF w G A xs := fun hn => by
  obtain ⟨ad, e, hb, hc⟩ := h hn
  refine ⟨ad, e, hF _ hb ?_, hc⟩
  have := hc 0 xs[0] (List.getElem?_eq_getElem hn)
  have := cell_lt this
  rwa [block_add] at this
theorem RowF.keep (h : RowF w F A xs) (hk : ∀ p : Addr, F p.block → ∀ u, w.cell? p = some u → w'.cell? p = some u) : RowF w' F A xs := fun hn => by
  obtain ⟨ad, e, hb, hc⟩ := h hn
  exact ⟨ad, e, hb, fun j u hu => hk _ (by rw [block_add]; exact hb) u (hc j u hu)⟩
theorem RowF.below (h : RowF w F A xs) (hb : Below w.heap.size w w') : RowF w' F A xs := h.keep fun _ _ _ hu => cell_below' hb hu
theorem RowF.setCell (h : RowF w F A xs) {p : Addr} (hp : ¬ F p.block) (u : Value) : RowF (w.setCell p u) F A xs :=
  h.keep fun q hq v hv => (World.cell?_setCell_other w p q u (fun e => by subst e; exact hp hq)).trans hv
theorem RowF.alloc (h : RowF w F A xs) (o : Obj) : RowF (w.alloc o) F A xs := h.below ((Below.refl _ _).alloc (Nat.le_refl _) _)
theorem RowF.drewN (h : RowF w F A xs) (n : Nat) : RowF (w.drewN n) F A xs := h
theorem RowF.take (h : RowF w F A xs) (k : Nat) : RowF w F A (xs.take k) := fun hn => by
  have hl : (xs.take k).length ≤ xs.length := by rw [List.length_take]; omega
  obtain ⟨ad, e, hb, hc⟩ := h (by omega)
  refine ⟨ad, e, hb, fun j u hu => hc j u ?_⟩
  rw [List.getElem?_take] at hu
  split at hu
  · exact hu
  · cases hu
end

/-- Block g is just the cells cs of element type t, none frozen. -/
def Blk (w : World) (g : Nat) (t : TypeId) (cs : Array Value) : Prop := w.heap[g]? = some (.cells cs t (0, 0))

section
variable {w w' : World} {g : Nat} {t : TypeId} {cs : Array Value}
theorem Blk.lt (h : Blk w g t cs) : g < w.heap.size := by
  rcases Nat.lt_or_ge g w.heap.size with hlt | hge
  · exact hlt
  · unfold Blk at h; rw [Array.getElem?_eq_none hge] at h; cases h
theorem Blk.cell (h : Blk w g t cs) (i : Nat) : w.cell? ⟨g, i, none⟩ = cs[i]? := cell_of_row w g i cs t (0, 0) h
theorem Blk.frozen (h : Blk w g t cs) (i : Nat) : w.frozen? ⟨g, i, none⟩ = false := by
  unfold Blk at h
  simp [World.frozen?, h]
theorem Blk.new (w : World) (t : TypeId) (cs : Array Value) : Blk (w.alloc (.cells cs t)) w.heap.size t cs := heap_alloc_new w _
theorem Blk.drew (h : Blk w g t cs) : Blk w.drew g t cs := h
theorem Blk.drewN (h : Blk w g t cs) (n : Nat) : Blk (w.drewN n) g t cs := h
theorem Blk.alloc (h : Blk w g t cs) (o : Obj) : Blk (w.alloc o) g t cs := (Below.heap_alloc w o g h.lt).trans h
theorem Blk.set_ (h : Blk w g t cs) (i : Nat) (u : Value) : Blk (w.setCell ⟨g, i, none⟩ u) g t (cs.setIfInBounds i u) := by
  unfold Blk at h ⊢
  simp [World.setCell, Array.getElem?_modify, h]
theorem Blk.far (h : Blk w g t cs) {p : Addr} (hp : g ≠ p.block) (u : Value) : Blk (w.setCell p u) g t cs := (Below.heap_setCell w p u g hp).trans h
theorem Blk.below {B : Nat} (h : Blk w g t cs) (hb : Below B w w') (hg : g < B) : Blk w' g t cs := (hb.block g hg).trans h
theorem Blk.grown {row : Option Nat} (h : Blk w g t cs) (hb : w.grownBy w' row) (hg : some g ≠ row) : Blk w' g t cs := (hb.block g h.lt hg).trans h
end
theorem addr_add (g o j : Nat) : (⟨g, o, none⟩ : Addr).add j = ⟨g, o + j, none⟩ := by
  unfold Addr.add
  split
  · subst_vars; rfl
  · rfl
theorem Row.of_blk {w : World} {g t : Nat} {cs : Array Value} (h : Blk w g t cs) {base : Nat} (hb : base ≤ g) {xs : List Value} (hx : xs = cs.toList) : Row w base (some ⟨g, 0, none⟩) xs := fun _ =>
  ⟨_, rfl, hb, fun j u hu => by rw [addr_add, Nat.zero_add, h.cell j]; rw [hx] at hu; simpa using hu⟩

/-- What the append law wants to know of a slice's type t and its elements' type e. -/
structure ElemT (P : Program) (t e size bytes : Nat) : Prop where
  ex : ∃ i z, P.underlying t = some (.slice e) ∧ P.info? e = some i ∧ i.zero = some z ∧ i.size = size ∧ i.bytes = bytes ∧ z.cells.size = size ∧ 0 < size
theorem ElemT.mk' {P : Program} {t e size bytes : Nat} {z : Value} (hu : P.underlying t = some (.slice e)) (hi : (P.info? e).map (fun i => (i.zero, i.size, i.bytes)) = some (some z, size, bytes)) (hz : z.cells.size = size) (hs : 0 < size) : ElemT P t e size bytes := by
  obtain ⟨i0, h1, h2, h3, h4⟩ := info_parts hi
  exact ⟨i0, z, hu, h1, h2, h3, h4, hz, hs⟩

/-- Append onto a row of the call's own; where the new row lies. -/
theorem wpList_app {P : Program} {w : World} {t e size bytes : Nat} (hE : ElemT P t e size bytes) {ops : Array Oper} {rest : List Oper} {o : Oper} {a : Act} {Q : Exit → Act → World → Prop} (hgd : o.guard = none) (s x : Operand)
    (ho : o.op = .call { callee := .builtin .append, args := #[s, x], argTypes := #[t, t] }) {base : Nat} {v : Value} {n : Nat} {xs : List Value} (hs : a.eval s = v) (hown : w.ownsRow base e size v n xs)
    (ad : Addr) (m c : Nat) (news : List Value) (hx : a.eval x = .slice (some ad) m c) (hl : news.length = m * size) (hnews : ∀ j u, news[j]? = some u → w.cell? (ad.add j) = some u) (h1 : ∀ u ∈ news, u.oneCell' = true)
    (hbytes : (n + m) * bytes ≤ 140737488355328) (h63 : n + m ≤ maxLen) (hbase : base ≤ w.heap.size) (hm : 0 < m)
    (h : ∀ g cap w', w'.ownsRow base e size (.slice (some ⟨g, 0, none⟩) (n + m) cap) (n + m) (xs ++ news) → w.grownBy w' v.ownBlock → (v.ownBlock = some g ∨ g = w.heap.size) → wpList P ops Q rest (a.put o.dst (.slice (some ⟨g, 0, none⟩) (n + m) cap)) w') : wpList P ops Q (o :: rest) a w := by
  obtain ⟨i, z, hu, hi, hz, hsz, hby, hzs, hpos⟩ := hE.ex
  exact wpList_append_lies _ hgd s x t ho base e i z size bytes hu hi hz hsz hby hzs hpos v n xs hs hown ad m c news hx hl hnews h1 hm h63 hbytes hbase _ rfl fun g cap w' a1 a2 a3 _ => h g cap w' a1 a2 a3

end Go.Proofs.YtjiphalannmcnaaDoor
