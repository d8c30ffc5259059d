/- A map from keys to slices, seen as a function of what a key reads as; rows that a call groups by such a map. -/
import Derived.Test.YtmijcgcppankcaaMem
import Derived.Maps.OwnSet
import Derived.Maps.RangeWalk
import Derived.Maps.Views
import Derived.RowKit
namespace Go.Proofs.Ytmijcgcppankcaa.MV
open Go.Maps (Keyed)
set_option linter.unusedVariables false
set_option linter.unusedSimpArgs false

/-- A slice is told as itself. -/
def asSl (v : Value) : Option (DataW Value × List MemPlace) := match v with | .slice _ _ _ => some (.held v, []) | _ => none
theorem asSl_mk (A : Option Addr) (n c : Nat) : asSl (.slice A n c) = some (.held (.slice A n c), []) := rfl
theorem asSl_inv {v : Value} {y : DataW Value × List MemPlace} (h : asSl v = some y) : ∃ A n c, v = .slice A n c ∧ y.1 = .held (.slice A n c) := by
  unfold asSl at h
  split at h
  · cases h; exact ⟨_, _, _, rfl, rfl⟩
  · cases h
abbrev KF := Lit → Option Value
def TellsV (D : DataW Value) (f : KF) : Prop := ∀ kl, WideAt.IsKeyLit kl → ∀ z, D.atKey kl z = match f kl with | some v => .held v | none => z
def MapV (P : Program) (k : TypeId) (m n : Nat) (f : KF) (w : World) : Prop := ∃ D, w.ownsMap P k asSl m n D ∧ TellsV D f
open Classical in
noncomputable def upd (f : KF) (kl : Lit) (v : Value) : KF := fun x => if x = kl then some v else f x
theorem upd_same (f : KF) (kl : Lit) (v : Value) : upd f kl v kl = some v := by simp [upd]
theorem upd_other (f : KF) {kl x : Lit} (v : Value) (h : x ≠ kl) : upd f kl v x = f x := by simp [upd, h]
section
variable {P : Program} {k : TypeId} {m n : Nat} {f : KF} {w w' : World}
theorem MapV.made (P : Program) (k : TypeId) (w : World) : MapV P k w.heap.size 0 (fun _ => none) (w.alloc (.map #[] 0)) :=
  ⟨_, World.ownsMap_made w _ _ _, fun kl _ z => WideAt.atKey_none z (by simp)⟩
theorem MapV.lt (h : MapV P k m n f w) : m < w.heap.size := by obtain ⟨D, h, _⟩ := h; exact h.lt
theorem MapV.kept {row : Option Nat} (h : MapV P k m n f w) (hg : w.grownBy w' row) (hne : some m ≠ row) : MapV P k m n f w' := by
  obtain ⟨D, h, ht⟩ := h; exact ⟨D, h.kept hg hne, ht⟩
theorem MapV.alloc (h : MapV P k m n f w) (o : Obj) : MapV P k m n f (w.alloc o) := by obtain ⟨D, h, ht⟩ := h; exact ⟨D, h.alloc o, ht⟩
theorem MapV.later (h : MapV P k m n f w) (hb : RowKit.Below w.heap.size w w') : MapV P k m n f w' := by
  obtain ⟨D, h, ht⟩ := h
  refine ⟨D, ?_, ht⟩
  have hlt := h.lt
  obtain ⟨es, clock, hh, F, hs, hD⟩ := h
  exact ⟨es, clock, (hb.block m hlt).trans hh, F, hs, hD⟩
theorem MapV.setCell (h : MapV P k m n f w) {a : Addr} (ha : m ≠ a.block) (u : Value) : MapV P k m n f (w.setCell a u) := by
  obtain ⟨D, h, ht⟩ := h; exact ⟨D, h.setCell ha u, ht⟩
theorem MapV.mono {n' : Nat} (h : MapV P k m n f w) (hn : n ≤ n') : MapV P k m n' f w := by obtain ⟨D, h, ht⟩ := h; exact ⟨D, h.mono hn, ht⟩
theorem MapV.not_cells {cs : Array Value} {t : TypeId} {g : Nat} (h : MapV P k m n f w) (hg : w.heap[g]? = some (.cells cs t)) : g ≠ m := by
  rintro rfl
  obtain ⟨D, ⟨es, clock, hb, _⟩, _⟩ := h
  rw [hb] at hg
  cases hg
theorem MapV.look (h : MapV P k m n f w) {t e : TypeId} (K : Keyed P k) (ht : P.underlying t = some (.map k e)) (hz : (zeroValue e).run P w = .ok (.slice none 0 0) w) {key : Value} {kl : Lit} (hkey : keyOf P k key = some kl) :
    (Instr.lookup t (.map (some m)) key false).run P w = .ok ((f kl).getD (.slice none 0 0)) w := by
  obtain ⟨D, h, hd⟩ := h
  obtain ⟨v, ps, hrun, hv⟩ := h.lookup K ht hz (asSl_mk none 0 0) hkey
  obtain ⟨A, a, c, rfl, hy⟩ := asSl_inv hv
  rw [hrun]
  simp only at hy
  rw [hd kl (K.key hkey)] at hy
  cases hf : f kl with
  | none => rw [hf] at hy; simp only at hy; injection hy with hy; rw [← hy]; rfl
  | some u => rw [hf] at hy; simp only at hy; injection hy with hy; rw [← hy]; rfl
theorem MapV.put (h : MapV P k m n f w) {t e : TypeId} (K : Keyed P k) (ht : P.underlying t = some (.map k e)) (hn : n < maxLen) {key : Value} {kl : Lit} (hkey : keyOf P k key = some kl) (A : Option Addr) (a c : Nat) :
    ∃ w', (Instr.mapUpdate t (.map (some m)) key (.slice A a c)).run P w = .ok () w' ∧ MapV P k m (n + 1) (upd f kl (.slice A a c)) w' ∧ w.grownBy w' (some m) := by
  obtain ⟨D, h, hd⟩ := h
  have hm := h.isMap
  obtain ⟨w', hrun, r1, r2⟩ := h.update K ht hn hkey (asSl_mk A a c)
  refine ⟨w', hrun, ⟨_, r1, fun x hx z => ?_⟩, r2⟩
  by_cases e : x = kl
  · subst e
    rw [Maps.atKey_put_same hm hx, upd_same]
  · rw [Maps.atKey_put_other e, hd x hx z, upd_other f _ e]
/-- Under way over such a map. -/
def RangeV (P : Program) (k : TypeId) (m r n : Nat) (f : KF) (left : Lit → Bool) (cnt : Nat) (w : World) : Prop := ∃ D, w.ranges P k asSl m r n D left cnt ∧ TellsV D f
variable {r cnt : Nat} {left : Lit → Bool}
theorem RangeV.owns (h : RangeV P k m r n f left cnt w) : MapV P k m n f w := by obtain ⟨D, h, ht⟩ := h; exact ⟨D, h.owns, ht⟩
theorem RangeV.left_eq (h : RangeV P k m r n f left cnt w) : w.rangeLeft m r = cnt := by obtain ⟨D, h, ht⟩ := h; exact h.left_eq
theorem RangeV.ne (h : RangeV P k m r n f left cnt w) : r ≠ m := by obtain ⟨D, h, ht⟩ := h; exact h.ne
theorem RangeV.lt (h : RangeV P k m r n f left cnt w) : r < w.heap.size := by obtain ⟨D, h, ht⟩ := h; exact h.lt
theorem RangeV.kept {row : Option Nat} (h : RangeV P k m r n f left cnt w) (hg : w.grownBy w' row) (hb : some m ≠ row) (hr : some r ≠ row) : RangeV P k m r n f left cnt w' := by
  obtain ⟨D, h, ht⟩ := h; exact ⟨D, h.kept hg hb hr, ht⟩
theorem RangeV.later (h : RangeV P k m r n f left cnt w) (hb : RowKit.Below w.heap.size w w') : RangeV P k m r n f left cnt w' :=
  h.kept (row := none) ⟨hb.os, hb.tape, hb.output, hb.size, fun i hi _ => hb.block i hi⟩ (by simp) (by simp)
section
variable {ops : Array Oper} {rest : List Oper} {o : Oper} {a : Act} {Q : Exit → Act → World → Prop}
theorem wpList_rangeV (hg : o.guard = none) (mm : Operand) (t : TypeId) (hop : o.op = Op.range t mm) (k e : TypeId) (K : Keyed P k) (ht : P.underlying t = some (.map k e)) (b n : Nat) (f : KF)
    (hm : a.eval mm = .map (some b)) (h : MapV P k b n f w)
    (hK : ∀ w' left cnt, RangeV P k b w.heap.size n f left cnt w' → cnt ≤ n → (∀ kl, WideAt.IsKeyLit kl → f kl ≠ none → left kl = true) → w.grownBy w' none → w'.heap.size = w.heap.size + 1 → wpList P ops Q rest (a.put o.dst (.pointer (some ⟨w.heap.size, 0, none⟩))) w') :
    wpList P ops Q (o :: rest) a w := by
  obtain ⟨D, h, hd⟩ := h
  refine wpList_range_own w hg mm t hop k e K ht asSl b n D hm h ?_
  intro w' hr hg' hs
  refine hK w' _ _ ⟨D, hr, hd⟩ h.size_le (fun kl hk hf => ?_) hg' hs
  cases hf2 : f kl with
  | none => exact absurd hf2 hf
  | some v => exact Maps.has_true_of_atKey (y := .held v) fun z => by rw [hd kl hk z, hf2]
theorem wpList_nextV {α : Type} (hg : o.guard = none) (it : Operand) (hop : o.op = Op.next it false) (k : TypeId) (K : Keyed P k) (mkK : α → Value) (invK : ∀ key kl, keyOf P k key = some kl → ∃ x, key = mkK x) (b r n : Nat) (f : KF) (left : Lit → Bool) (cnt : Nat)
    (hit : a.eval it = .pointer (some ⟨r, 0, none⟩)) (h : RangeV P k b r n f left cnt w)
    (hDone : cnt = 0 → (∀ kl, left kl = false) → wpList P ops Q rest (a.put o.dst (.tuple #[.bool false])) w)
    (hMore : ∀ (x : α) (A : Option Addr) (u c : Nat) (kl : Lit) (w' : World) (cnt' : Nat), keyOf P k (mkK x) = some kl → left kl = true → f kl = some (.slice A u c) → RangeV P k b r n f (fun z => left z && !z.sameKey kl) cnt' w' → cnt' < cnt →
      w.grownBy w' (some r) → w'.heap.size = w.heap.size → (Instr.entry (.pointer (some ⟨r, 0, none⟩))).run P w' = .ok (.tuple #[mkK x, .slice A u c]) w' → wpList P ops Q rest (a.put o.dst (.tuple #[.bool true, mkK x, .slice A u c])) w') :
    wpList P ops Q (o :: rest) a w := by
  obtain ⟨D, h, hd⟩ := h
  refine wpList_next_ranges (β := Option Addr × Nat × Nat) w hg it hop k K asSl mkK (fun c => .slice c.1 c.2.1 c.2.2) invK (fun v y hv => by obtain ⟨A, u, c, rfl, _⟩ := asSl_inv hv; exact ⟨(A, u, c), rfl⟩) b r n D left cnt hit h hDone ?_
  rintro x ⟨A, u, c⟩ kl y w' cnt' hkey hlk hv hat hrg hlt hgr hsz hen
  refine hMore x A u c kl w' cnt' hkey hlk ?_ ⟨D, hrg, hd⟩ hlt hgr hsz hen
  obtain ⟨A', u', c', hs, hy⟩ := asSl_inv hv
  simp only at hs
  rw [← hs] at hy
  have h1 := hat (.lit (.bool true))
  have h2 := hat (.lit (.bool false))
  rw [hd kl (K.key hkey)] at h1 h2
  cases hf : f kl with
  | none => rw [hf] at h1 h2; simp only at h1 h2; rw [← h1] at h2; cases h2
  | some v => rw [hf] at h1; simp only at h1; rw [hy] at h1; injection h1 with h1; rw [h1]
end
end
/-- What has been struck. -/
theorem struck_same {left : Lit → Bool} {kl : Lit} (h : WideAt.IsKeyLit kl) : (fun z : Lit => left z && !z.sameKey kl) kl = false := by
  show (left kl && !kl.sameKey kl) = false
  rw [WideAt.sameKey_self h]; simp
theorem struck_other {left : Lit → Bool} {kl x : Lit} (h : x ≠ kl) : (fun z : Lit => left z && !z.sameKey kl) x = left x := by
  show (left x && !x.sameKey kl) = left x
  rw [Maps.sameKey_ne h]; simp
/-- Rows that the call owns, one for each key, none in another's block. -/
structure Grp (base e : Nat) (f : KF) (g : Lit → List Value) (w : World) : Prop where
  own : ∀ kl v, f kl = some v → w.ownsRow base e 1 v (g kl).length (g kl)
  pos : ∀ kl v, f kl = some v → g kl ≠ []
  no : ∀ kl, f kl = none → g kl = []
  apart : ∀ k1 k2 v1 v2, f k1 = some v1 → f k2 = some v2 → k1 ≠ k2 → ∀ b, v1.ownBlock = some b → v2.ownBlock ≠ some b
theorem Grp.zero (base e : Nat) (w : World) : Grp base e (fun _ => none) (fun _ => []) w := ⟨fun _ _ h => (by cases h), fun _ _ h => (by cases h), fun _ _ => rfl, fun _ _ _ _ h => (by cases h)⟩
theorem own_grown {w w' : World} {base e size n : Nat} {v : Value} {xs : List Value} {row : Option Nat} (h : w.ownsRow base e size v n xs) (hg : w.grownBy w' row) (hne : ∀ g, v.ownBlock = some g → some g ≠ row) : w'.ownsRow base e size v n xs := by
  refine ⟨h.1, h.2.imp id fun ⟨g, cap, cur, e, hb, hgg, rest⟩ => ⟨g, cap, cur, e, hb, ?_, rest⟩⟩
  exact (hg.block g (Array.getElem?_eq_some_iff.1 hgg).1 (hne g (by rw [e]; rfl))).trans hgg
theorem own_below {w w' : World} {base e size n : Nat} {v : Value} {xs : List Value} (h : w.ownsRow base e size v n xs) (hb : RowKit.Below w.heap.size w w') : w'.ownsRow base e size v n xs :=
  own_grown (row := none) h ⟨hb.os, hb.tape, hb.output, hb.size, fun i hi _ => hb.block i hi⟩ (by simp)
theorem Grp.kept {base e : Nat} {f : KF} {g : Lit → List Value} {w w' : World} {row : Option Nat} (h : Grp base e f g w) (hg : w.grownBy w' row) (hne : ∀ kl v b, f kl = some v → v.ownBlock = some b → some b ≠ row) : Grp base e f g w' :=
  ⟨fun kl v hf => own_grown (h.own kl v hf) hg (fun b hb => hne kl v b hf hb), h.pos, h.no, h.apart⟩
theorem Grp.later {base e : Nat} {f : KF} {g : Lit → List Value} {w w' : World} (h : Grp base e f g w) (hb : RowKit.Below w.heap.size w w') : Grp base e f g w' :=
  ⟨fun kl v hf => own_below (h.own kl v hf) hb, h.pos, h.no, h.apart⟩
theorem Grp.at {base e : Nat} {f : KF} {g : Lit → List Value} {w : World} (h : Grp base e f g w) (kl : Lit) : w.ownsRow base e 1 ((f kl).getD (.slice none 0 0)) (g kl).length (g kl) := by
  cases hf : f kl with
  | none => rw [h.no kl hf]; exact World.ownsRow_nil _ _ _ _
  | some v => exact h.own kl v hf
open Classical in
noncomputable def gput (g : Lit → List Value) (kl : Lit) (x : Value) : Lit → List Value := fun z => if z = kl then g kl ++ [x] else g z
theorem Grp.put {base e : Nat} {f : KF} {g : Lit → List Value} {w w1 w' : World} {o : Obj} {kl : Lit} {v' x : Value} {N : Nat} {row : Option Nat} (h : Grp base e f g w)
    (hN : (g kl).length + 1 = N) (hown : w1.ownsRow base e 1 v' N (g kl ++ [x])) (hg : (w.alloc o).grownBy w1 ((f kl).getD (.slice none 0 0)).ownBlock)
    (hat : ∀ b, v'.ownBlock = some b → ((f kl).getD (.slice none 0 0)).ownBlock = some b ∨ b = (w.alloc o).heap.size)
    (hg2 : w1.grownBy w' row) (hne : ∀ b, (∃ cs t, w1.heap[b]? = some (.cells cs t)) → some b ≠ row) : Grp base e (upd f kl v') (gput g kl x) w' := by
  have hg1 := (World.grownBy_alloc w o ((f kl).getD (.slice none 0 0)).ownBlock).trans hg
  have lt : ∀ k2 v2 b, f k2 = some v2 → v2.ownBlock = some b → b < w.heap.size := fun k2 v2 b h2 hb => ((h.own k2 v2 h2).lt b hb).2
  have ap : ∀ k2 v2, k2 ≠ kl → f k2 = some v2 → ∀ b, v2.ownBlock = some b → ((f kl).getD (.slice none 0 0)).ownBlock ≠ some b := fun k2 v2 hk h2 b hb e => by
    cases hf : f kl with
    | none => rw [hf] at e; cases e
    | some u => rw [hf] at e; exact h.apart k2 kl v2 u h2 hf hk b hb e
  have cell : ∀ {ww : World} {v : Value} {n : Nat} {xs : List Value}, ww.ownsRow base e 1 v n xs → ∀ b, v.ownBlock = some b → ∃ cs t, ww.heap[b]? = some (.cells cs t) := fun {ww v n xs} ho b hb => by
    rcases ho.2 with ⟨h2, _⟩ | ⟨g', cap', cur, rfl, hgb, hh, _⟩
    · subst h2; cases hb
    · simp only [Value.ownBlock, Option.some.injEq] at hb
      subst hb
      exact ⟨_, _, hh⟩
  refine ⟨fun k2 v2 h2 => ?_, fun k2 v2 h2 => ?_, fun k2 h2 => ?_, fun k1 k2 v1 v2 h1 h2 hk b hb => ?_⟩
  · by_cases hk : k2 = kl
    · subst hk
      rw [upd_same] at h2
      injection h2 with h2
      subst h2
      have e1 : gput g k2 x k2 = g k2 ++ [x] := by simp [gput]
      rw [e1, List.length_append, List.length_singleton, hN]
      exact own_grown hown hg2 (fun b hb => hne b (cell hown b hb))
    · rw [upd_other f _ hk] at h2
      have e1 : gput g kl x k2 = g k2 := by simp [gput, hk]
      rw [e1]
      have h3 := own_grown (h.own k2 v2 h2) hg1 (fun b hb e => ap k2 v2 hk h2 b hb e.symm)
      exact own_grown h3 hg2 (fun b hb => hne b (cell h3 b hb))
  · by_cases hk : k2 = kl
    · subst hk; simp [gput]
    · rw [upd_other f _ hk] at h2
      have e1 : gput g kl x k2 = g k2 := by simp [gput, hk]
      rw [e1]; exact h.pos k2 v2 h2
  · by_cases hk : k2 = kl
    · subst hk; rw [upd_same] at h2; cases h2
    · rw [upd_other f _ hk] at h2
      have e1 : gput g kl x k2 = g k2 := by simp [gput, hk]
      rw [e1]; exact h.no k2 h2
  · by_cases h1k : k1 = kl
    · by_cases h2k : k2 = kl
      · exact absurd (h1k.trans h2k.symm) hk
      · subst h1k
        rw [upd_same] at h1
        injection h1 with h1
        subst h1
        rw [upd_other f _ h2k] at h2
        intro e
        rcases hat b hb with q | q
        · exact ap k2 v2 h2k h2 b e q
        · have := lt k2 v2 b h2 e
          simp at q
          omega
    · rw [upd_other f _ h1k] at h1
      by_cases h2k : k2 = kl
      · subst h2k
        rw [upd_same] at h2
        injection h2 with h2
        subst h2
        intro e
        rcases hat b e with q | q
        · exact ap k1 v1 h1k h1 b hb q
        · have := lt k1 v1 b h1 hb
          simp at q
          omega
      · rw [upd_other f _ h2k] at h2
        exact h.apart k1 k2 v1 v2 h1 h2 hk b hb
theorem Grp.put2 {base e : Nat} {f : KF} {g : Lit → List Value} {w w1 w' : World} {kl : Lit} {v' x : Value} {N : Nat} {row : Option Nat} (h : Grp base e f g w)
    (hN : (g kl).length + 1 = N) (hown : w1.ownsRow base e 1 v' N (g kl ++ [x])) (hg1 : w.grownBy w1 ((f kl).getD (.slice none 0 0)).ownBlock)
    (hat : ∀ b, v'.ownBlock = some b → ((f kl).getD (.slice none 0 0)).ownBlock = some b ∨ b = w.heap.size)
    (hg2 : w1.grownBy w' row) (hne : ∀ b, (∃ cs t, w1.heap[b]? = some (.cells cs t)) → some b ≠ row) : Grp base e (upd f kl v') (gput g kl x) w' := by
  have lt : ∀ k2 v2 b, f k2 = some v2 → v2.ownBlock = some b → b < w.heap.size := fun k2 v2 b h2 hb => ((h.own k2 v2 h2).lt b hb).2
  have ap : ∀ k2 v2, k2 ≠ kl → f k2 = some v2 → ∀ b, v2.ownBlock = some b → ((f kl).getD (.slice none 0 0)).ownBlock ≠ some b := fun k2 v2 hk h2 b hb e => by
    cases hf : f kl with
    | none => rw [hf] at e; cases e
    | some u => rw [hf] at e; exact h.apart k2 kl v2 u h2 hf hk b hb e
  have cell : ∀ {ww : World} {v : Value} {n : Nat} {xs : List Value}, ww.ownsRow base e 1 v n xs → ∀ b, v.ownBlock = some b → ∃ cs t, ww.heap[b]? = some (.cells cs t) := fun {ww v n xs} ho b hb => by
    rcases ho.2 with ⟨h2, _⟩ | ⟨g', cap', cur, rfl, hgb, hh, _⟩
    · subst h2; cases hb
    · simp only [Value.ownBlock, Option.some.injEq] at hb
      subst hb
      exact ⟨_, _, hh⟩
  refine ⟨fun k2 v2 h2 => ?_, fun k2 v2 h2 => ?_, fun k2 h2 => ?_, fun k1 k2 v1 v2 h1 h2 hk b hb => ?_⟩
  · by_cases hk : k2 = kl
    · subst hk
      rw [upd_same] at h2
      injection h2 with h2
      subst h2
      have e1 : gput g k2 x k2 = g k2 ++ [x] := by simp [gput]
      rw [e1, List.length_append, List.length_singleton, hN]
      exact own_grown hown hg2 (fun b hb => hne b (cell hown b hb))
    · rw [upd_other f _ hk] at h2
      have e1 : gput g kl x k2 = g k2 := by simp [gput, hk]
      rw [e1]
      have h3 := own_grown (h.own k2 v2 h2) hg1 (fun b hb e => ap k2 v2 hk h2 b hb e.symm)
      exact own_grown h3 hg2 (fun b hb => hne b (cell h3 b hb))
  · by_cases hk : k2 = kl
    · subst hk; simp [gput]
    · rw [upd_other f _ hk] at h2
      have e1 : gput g kl x k2 = g k2 := by simp [gput, hk]
      rw [e1]; exact h.pos k2 v2 h2
  · by_cases hk : k2 = kl
    · subst hk; rw [upd_same] at h2; cases h2
    · rw [upd_other f _ hk] at h2
      have e1 : gput g kl x k2 = g k2 := by simp [gput, hk]
      rw [e1]; exact h.no k2 h2
  · by_cases h1k : k1 = kl
    · by_cases h2k : k2 = kl
      · exact absurd (h1k.trans h2k.symm) hk
      · subst h1k
        rw [upd_same] at h1
        injection h1 with h1
        subst h1
        rw [upd_other f _ h2k] at h2
        intro e
        rcases hat b hb with q | q
        · exact ap k2 v2 h2k h2 b e q
        · have := lt k2 v2 b h2 e
          omega
    · rw [upd_other f _ h1k] at h1
      by_cases h2k : k2 = kl
      · subst h2k
        rw [upd_same] at h2
        injection h2 with h2
        subst h2
        intro e
        rcases hat b e with q | q
        · exact ap k1 v1 h1k h1 b hb q
        · have := lt k1 v1 b h1 hb
          omega
      · rw [upd_other f _ h2k] at h2
        exact h.apart k1 k2 v1 v2 h1 h2 hk b hb
end Go.Proofs.Ytmijcgcppankcaa.MV
