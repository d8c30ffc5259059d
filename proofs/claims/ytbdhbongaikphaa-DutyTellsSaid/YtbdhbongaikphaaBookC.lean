/- A book in memory: a row that is put in the place of another one. -/
import Derived.Test.YtbdhbongaikphaaBookB
namespace Go.Proofs.Ytbdhbongaikphaa.BK
open Go.RowKit Go.Proofs.Ytbdhbongaikphaa.Cents
set_option linter.unusedVariables false
set_option linter.unusedSimpArgs false

theorem own_set {w : World} {base e g n cap : Nat} {xs : List Value} (h : w.ownsRow base e 1 (.slice (some ⟨g, 0, none⟩) n cap) n xs) (j : Nat) (u : Value) :
    (w.setCell ⟨g, j, none⟩ u).ownsRow base e 1 (.slice (some ⟨g, 0, none⟩) n cap) n (xs.set j u) := by
  obtain ⟨h1, h2⟩ := h
  refine ⟨by simpa using h1, ?_⟩
  rcases h2 with ⟨h2, _⟩ | ⟨g', cap', cur, hv, hg, hh, hn, hm, hs, ht⟩
  · cases h2
  · injection hv with e1 _ e3
    injection e1 with e1
    injection e1 with e1
    subst e1; subst e3
    refine .inr ⟨g, cap, cur.setIfInBounds j u, rfl, hg, (show Blk w g e cur from hh).set_ j u, hn, hm, by simpa using hs, ?_⟩
    rw [Array.toList_setIfInBounds, List.take_set, ht]
theorem own_free {w : World} {base e g n cap size : Nat} {xs : List Value} (h : w.ownsRow base e size (.slice (some ⟨g, 0, none⟩) n cap) n xs) (j : Nat) : w.frozen? ⟨g, j, none⟩ = false := by
  rcases h.2 with ⟨h2, _⟩ | ⟨g', cap', cur, hv, hg, hh, hn, hm, hs, ht⟩
  · cases h2
  · injection hv with e1 _ e3
    injection e1 with e1
    injection e1 with e1
    subst e1
    exact (show Blk w g e cur from hh).frozen j
theorem own_box {w : World} {base e t Q n size : Nat} {cs : Array Value} {v : Value} {xs : List Value} (h : w.ownsRow base e size v n xs) (hb : Blk w Q t cs) (hte : t ≠ e) : some Q ≠ v.ownBlock := fun hv => by
  rcases h.2 with ⟨h2, _⟩ | ⟨g', cap', cur, hv', hg, hh, hn, hm, hs, ht⟩
  · subst h2; cases hv
  · subst hv'
    simp only [Value.ownBlock, Option.some.injEq] at hv
    subst hv
    rw [show w.heap[Q]? = _ from hb] at hh
    injection hh with hh
    injection hh with _ h3
    exact hte h3
theorem rowAt_set {rows : List PRow} {i k : Nat} {r : PRow} (h : i < rows.length) : rowAt (rows.set i r) k = if k = i then r else rowAt rows k := by
  unfold rowAt
  simp only [List.getD_eq_getElem?_getD, List.getElem?_set]
  by_cases c : i = k
  · subst c; simp [h]
  · rw [if_neg c, if_neg (by omega)]
section
variable {S : Nat → Prop} {b : Nat} {its : List It} {rows : List PRow} {I : Option Addr} {cI : Nat} {v : Value} {vals : List Value} {w w' : World}
theorem BkI.put {g cP i B c' : Nat} {A' : Option Addr} {r' : PRow} (h : BkI S b its rows I cI (.slice (some ⟨g, 0, none⟩) its.length cP) vals w) (hi : i < its.length) (hrl : rows.length = its.length) (hB : ∀ k, S k → k < B) (hBw : B ≤ w.heap.size)
    (hr : RowF w (fun q => B ≤ q) A' (pcells r')) (hc : r'.length ≤ c') :
    BkI (fun q => S q ∨ (B ≤ q ∧ q < w.heap.size)) b its (rows.set i r') I cI (.slice (some ⟨g, 0, none⟩) its.length cP) (vals.set i (.slice A' r'.length c')) (w.setCell ⟨g, i, none⟩ (.slice A' r'.length c')) := by
  have hSg : S g := h.sv g rfl
  have hgb : b ≠ g := fun e => own_box h.own h.bx (by decide) (by rw [e]; rfl)
  have hvl : vals.length = its.length := by have := h.own.1; omega
  have hF : ∀ q, (S q ∧ q ≠ b ∧ (Value.slice (some ⟨g, 0, none⟩) its.length cP).ownBlock ≠ some q) → (S q ∨ (B ≤ q ∧ q < w.heap.size)) ∧ q ≠ b ∧ (Value.slice (some ⟨g, 0, none⟩) its.length cP).ownBlock ≠ some q := fun q hq => ⟨.inl hq.1, hq.2⟩
  have hsz : (w.setCell ⟨g, i, none⟩ (.slice A' r'.length c')).heap.size = w.heap.size := by simp [World.setCell]
  have hlt : ∀ k, (S k ∨ (B ≤ k ∧ k < w.heap.size)) → k < (w.setCell ⟨g, i, none⟩ (.slice A' r'.length c')).heap.size := fun k hk => by
    rw [hsz]
    rcases hk with hk | hk
    · exact h.lt k hk
    · exact hk.2
  have hbx := h.bx.far (p := ⟨g, i, none⟩) hgb (.slice A' r'.length c')
  have hit := (h.items.setCell (p := ⟨g, i, none⟩) (fun hq => hq.2.2 rfl) (.slice A' r'.length c')).weak (G := fun q => (S q ∨ (B ≤ q ∧ q < w.heap.size)) ∧ q ≠ b ∧ (Value.slice (some ⟨g, 0, none⟩) its.length cP).ownBlock ≠ some q) fun q hq _ => hF q hq
  have how := own_set h.own i (.slice A' r'.length c')
  refine ⟨hlt, hbx, .inl h.sb, hit, how, fun q e => .inl (h.sv q e), fun k hk => ?_⟩
  rw [rowAt_set (by omega)]
  by_cases c : k = i
  · subst c
    rw [if_pos rfl]
    refine ⟨A', c', by rw [List.getElem?_set_self (by omega)], hc, ?_⟩
    have h1 := hr.setCell (p := ⟨g, k, none⟩) (by have := hB g hSg; simp only; omega) (.slice A' r'.length c')
    refine h1.weak fun q hq hl => ?_
    rw [hsz] at hl
    refine ⟨.inr ⟨hq, hl⟩, fun e => ?_, fun e => ?_⟩
    · have := hB b h.sb; omega
    · simp only [Value.ownBlock, Option.some.injEq] at e
      have := hB g hSg; omega
  · rw [if_neg c, List.getElem?_set_ne (by omega)]
    obtain ⟨A, c2, h1, h2, h3⟩ := h.row k hk
    exact ⟨A, c2, h1, h2, (h3.setCell (p := ⟨g, i, none⟩) (fun hq => hq.2.2 rfl) (.slice A' r'.length c')).weak fun q hq _ => hF q hq⟩
end
def setE (its : List It) (rows : List PRow) (item day n : Int) : Int :=
  if inI its.length item = true then (if day < 1 ∨ 1000000 < day ∨ n < 1 then 1 else if isAt (rowAt rows item.toNat) day = true then 6 else if 100 < (rowAt rows item.toNat).length then 4 else 0) else 5
def setR (its : List It) (rows : List PRow) (item day n : Int) : List PRow := if setE its rows item day n = 0 then rows.set item.toNat (put (rowAt rows item.toNat) day n) else rows
theorem info_pr : (Try.prog.info? 58).map (fun i => (i.zero, i.size, i.bytes)) = some (some (.agg #[.int .i64 0, .int .i64 0]), 2, 16) := by kernel_rfl
theorem E_pr : ElemT Try.prog 59 58 2 16 := .mk' Try.underlying59 info_pr rfl (by decide)
theorem pcells_take (r : PRow) (k : Nat) : pcells (r.take k) = (pcells r).take (k * 2) := by
  induction r generalizing k with
  | nil => simp [pcells]
  | cons p r ih =>
    cases k with
    | zero => simp [pcells]
    | succ k =>
      have e := ih k
      unfold pcells at e ⊢
      rw [List.take_succ_cons, List.flatMap_cons, e, List.flatMap_cons, show (k + 1) * 2 = k * 2 + 1 + 1 by omega]
      simp [pcell]
theorem pcells_drop (r : PRow) (k : Nat) : pcells (r.drop k) = (pcells r).drop (k * 2) := by
  induction r generalizing k with
  | nil => simp [pcells]
  | cons p r ih =>
    cases k with
    | zero => simp [pcells]
    | succ k =>
      have e := ih k
      unfold pcells at e ⊢
      rw [List.drop_succ_cons, e, List.flatMap_cons, show (k + 1) * 2 = k * 2 + 1 + 1 by omega]
      simp [pcell]
theorem pcells_put (r : PRow) (d n : Int) : pcells (put r d n) = (pcells (r.take (pos r d)) ++ [.int .i64 d, .int .i64 n]) ++ pcells (r.drop (pos r d)) := by
  unfold put pcells
  rw [List.flatMap_append, List.flatMap_append]
  simp [pcell]
theorem pcells_one (r : PRow) : ∀ u ∈ pcells r, u.oneCell' = true := by
  intro u hu
  unfold pcells at hu
  rw [List.mem_flatMap] at hu
  obtain ⟨p, _, hp⟩ := hu
  simp [pcell] at hp
  rcases hp with rfl | rfl <;> rfl
end Go.Proofs.Ytbdhbongaikphaa.BK
