/- How a row of obligations lies. -/
import Derived.Test.YtbdhbongaikphaaDutyA
import Derived.Test.YtbdhbongaikphaaMem2
import Derived.OwnWalk
namespace Go.Proofs.Ytbdhbongaikphaa.BK
open Go.RowKit Go.Proofs.Ytbdhbongaikphaa.Cents Go.Proofs.Ytbdhbongaikphaa.DU
set_option linter.unusedVariables false
set_option linter.unusedSimpArgs false

structure DV where
  d : Du
  v : Value
def nats (l : List Nat) : List Int := l.map (fun k : Nat => (k : Int))
theorem nats_len (l : List Nat) : (nats l).length = l.length := by simp [nats]
theorem nats_snoc (l : List Nat) (k : Nat) : nats (l ++ [k]) = nats l ++ [(k : Int)] := by simp [nats]
def dvc (x : DV) : List Value := [x.v, .int .i64 x.d.alone, .int .i64 x.d.units, .int .i64 x.d.method, .int .i64 x.d.first, .int .i64 x.d.last]
theorem dvc_len (x : DV) : (dvc x).length = 6 := rfl
structure DusW (b : Nat) (v : Value) (xs : List DV) (w : World) : Prop where
  own : w.ownsRow b 43 6 v xs.length (xs.flatMap dvc)
  lns : ∀ x ∈ xs, w.ownsRow b 3 1 x.v x.d.ls.length (ints (nats x.d.ls))
  apart : ∀ i j (hi : i < xs.length) (hj : j < xs.length), i ≠ j → xs[i].v.ownBlock = none ∨ xs[i].v.ownBlock ≠ xs[j].v.ownBlock
def dv0 : DV := ⟨⟨[], 0, 0, 0, 0, 0⟩, .slice none 0 0⟩
section
variable {b : Nat} {v : Value} {xs : List DV} {w w' : World}
theorem own_blw {base e size n : Nat} {u : Value} {ys : List Value} (h : w.ownsRow base e size u n ys) (hb : Below w.heap.size w w') : w'.ownsRow base e size u n ys :=
  ⟨h.1, h.2.imp id fun ⟨g, cap, cur, e1, hg, hh, r⟩ => ⟨g, cap, cur, e1, hg, (hb.block g (Array.getElem?_eq_some_iff.1 hh).1).trans hh, r⟩⟩
theorem DusW.later (h : DusW b v xs w) (hb : Below w.heap.size w w') : DusW b v xs w' := ⟨own_blw h.own hb, fun x hx => own_blw (h.lns x hx) hb, h.apart⟩
theorem DusW.nil (b : Nat) (w : World) : DusW b (.slice none 0 0) [] w := ⟨World.ownsRow_nil _ _ _ _, (fun x hx => by cases hx), fun i j hi _ _ => absurd hi (by simp)⟩
theorem DusW.sl (h : DusW b v xs w) : ∃ A c, v = .slice A xs.length c ∧ xs.length ≤ c := own_slice h.own
theorem dus_entry (hown : w.ownsRow b 43 6 v xs.length (xs.flatMap dvc)) {t : Nat} (ht : t < xs.length) : ∃ g c, v = .slice (some ⟨g, 0, none⟩) xs.length c ∧ (∀ j u, (dvc xs[t])[j]? = some u → w.cell? ⟨g, t * 6 + j, none⟩ = some u) ∧ (∀ j, w.frozen? ⟨g, j, none⟩ = false) ∧ b ≤ g ∧ ∃ cs, Blk w g 43 cs := by
  obtain ⟨g, cap, hv, hg1, _⟩ := hown.form (by omega)
  subst hv
  have hrow := Row.of_own hown (by decide)
  obtain ⟨ad, had, _, hc⟩ := hrow (by rw [flat_len dvc_len]; omega)
  cases had
  refine ⟨g, cap, rfl, fun j u hu => ?_, ?_⟩
  · have hj : j < 6 := by
      have := (List.getElem?_eq_some_iff.1 hu).1
      rwa [dvc_len] at this
    have := hc (t * 6 + j) u ((flat_at dvc_len ht j hj).trans hu)
    rwa [addr_add, Nat.zero_add] at this
  · rcases hown.2 with ⟨h2, _⟩ | ⟨g', cap', cur, hv, hg, hh, _⟩
    · cases h2
    · injection hv with e1 _ _
      injection e1 with e1
      injection e1 with e1
      subst e1
      exact ⟨fun j => (show Blk w g _ cur from hh).frozen j, hg, cur, hh⟩
theorem own_put {base e g n cap s : Nat} {ys : List Value} (h : w.ownsRow base e s (.slice (some ⟨g, 0, none⟩) n cap) n ys) (j : Nat) (u : Value) :
    (w.setCell ⟨g, j, none⟩ u).ownsRow base e s (.slice (some ⟨g, 0, none⟩) n cap) n (ys.set j u) := by
  obtain ⟨h1, h2⟩ := h
  refine ⟨by simpa using h1, ?_⟩
  rcases h2 with ⟨h2, _⟩ | ⟨g', cap', cur, hv, hg, hh, hn, hm, hs, ht⟩
  · cases h2
  · injection hv with e1 _ e3
    injection e1 with e1
    injection e1 with e1
    subst e1; subst e3
    refine .inr ⟨g, cap, cur.setIfInBounds j u, rfl, hg, (show Blk w g e cur from hh).set_ j u, hn, hm, by simpa using hs, ?_⟩
    rw [Array.toList_setIfInBounds, List.take_set, ht]
theorem dvc_set (y : DV) (a0 a1 a2 a4 a5 : Value) : ∀ (l : List DV) (t : Nat) (ht : t < l.length), dvc y = [a0, a1, a2, .int .i64 l[t].d.method, a4, a5] →
    (((((l.flatMap dvc).set (t * 6) a0).set (t * 6 + 1) a1).set (t * 6 + 2) a2).set (t * 6 + 4) a4).set (t * 6 + 5) a5 = (l.set t y).flatMap dvc := by
  intro l
  induction l with
  | nil => intro t ht; simp at ht
  | cons x l ih =>
    intro t ht hy
    cases t with
    | zero =>
      rw [List.set_cons_zero, List.flatMap_cons, List.flatMap_cons, hy]
      simp [dvc]
    | succ t =>
      have := ih t (by simpa using ht) (by simpa using hy)
      have key : ∀ (ys : List Value) (k : Nat) (u : Value), (dvc x ++ ys).set ((t + 1) * 6 + k) u = dvc x ++ ys.set (t * 6 + k) u := fun ys k u => by
        rw [List.set_append_right _ _ (by rw [dvc_len]; omega), dvc_len, show (t + 1) * 6 + k - 6 = t * 6 + k by omega]
      have key0 : ∀ (ys : List Value) (u : Value), (dvc x ++ ys).set ((t + 1) * 6) u = dvc x ++ ys.set (t * 6) u := fun ys u => key ys 0 u
      rw [List.flatMap_cons, List.set_cons_succ, List.flatMap_cons]
      rw [key0, key, key, key, key, this]
def put5 (w : World) (g o : Nat) (a0 a1 a2 a4 a5 : Value) : World := ((((w.setCell ⟨g, o, none⟩ a0).setCell ⟨g, o + 1, none⟩ a1).setCell ⟨g, o + 2, none⟩ a2).setCell ⟨g, o + 4, none⟩ a4).setCell ⟨g, o + 5, none⟩ a5
theorem own_put5 {base cap g t : Nat} (h : w.ownsRow base 43 6 (.slice (some ⟨g, 0, none⟩) xs.length cap) xs.length (xs.flatMap dvc)) (ht : t < xs.length) (y : DV) (a0 a1 a2 a4 a5 : Value) (hy : dvc y = [a0, a1, a2, .int .i64 xs[t].d.method, a4, a5]) :
    (put5 w g (t * 6) a0 a1 a2 a4 a5).ownsRow base 43 6 (.slice (some ⟨g, 0, none⟩) (xs.set t y).length cap) (xs.set t y).length ((xs.set t y).flatMap dvc) := by
  rw [List.length_set, ← dvc_set y a0 a1 a2 a4 a5 xs t ht hy]
  exact own_put (own_put (own_put (own_put (own_put h _ _) _ _) _ _) _ _) _ _
theorem fr_set {g : Nat} {w0 w : World} (h : Fr (fun q => q = g) w0 w) (j : Nat) (u : Value) : Fr (fun q => q = g) w0 (w.setCell ⟨g, j, none⟩ u) := h.setCell (fun _ => rfl) u
theorem own_far {base e size n g : Nat} {u : Value} {ys : List Value} (h : w.ownsRow base e size u n ys) (hg : u.ownBlock ≠ some g) (o : Nat) (a0 a1 a2 a4 a5 : Value) : (put5 w g o a0 a1 a2 a4 a5).ownsRow base e size u n ys := by
  have hf : Fr (fun q => q = g) w (put5 w g o a0 a1 a2 a4 a5) := fr_set (fr_set (fr_set (fr_set (fr_set (Fr.refl _ w) _ _) _ _) _ _) _ _) _ _
  exact own_fr h hf (fun k hk e => hg (by rw [hk, e]))
theorem own_ty {b1 e1 s1 n1 b2 e2 s2 n2 : Nat} {u u2 : Value} {ys zs : List Value} (h : w.ownsRow b1 e1 s1 u n1 ys) (h2 : w.ownsRow b2 e2 s2 u2 n2 zs) (he : e1 ≠ e2) : u.ownBlock = none ∨ u.ownBlock ≠ u2.ownBlock := by
  rcases h.2 with ⟨rfl, _⟩ | ⟨g, cap, cur, rfl, _, hg, _⟩
  · exact .inl rfl
  · refine .inr fun e => ?_
    rcases h2.2 with ⟨rfl, _⟩ | ⟨g', cap', cur', rfl, _, hg', _⟩
    · cases e
    · injection e with e
      subst e
      rw [hg] at hg'
      injection hg' with hg'
      injection hg' with _ hg'
      exact he hg'
/-- A line is let in. -/
theorem DusW.join {g c t : Nat} {w1 : World} {v' : Value} {y : Du} (h : DusW b (.slice (some ⟨g, 0, none⟩) xs.length c) xs w) (ht : t < xs.length) (hg : w.grownBy w1 xs[t].v.ownBlock)
    (ho : w1.ownsRow b 3 1 v' y.ls.length (ints (nats y.ls))) (hv : ∀ q, v'.ownBlock = some q → xs[t].v.ownBlock = some q ∨ w.heap.size ≤ q) (hm : y.method = xs[t].d.method) :
    DusW b (.slice (some ⟨g, 0, none⟩) (xs.set t ⟨y, v'⟩).length c) (xs.set t ⟨y, v'⟩) (put5 w1 g (t * 6) v' (.int .i64 y.alone) (.int .i64 y.units) (.int .i64 y.first) (.int .i64 y.last)) := by
  have hlt := h.lns xs[t] (List.getElem_mem ht)
  have hgd : xs[t].v.ownBlock = none ∨ xs[t].v.ownBlock ≠ some g := own_ty hlt h.own (by decide)
  have hgb := (h.own.lt g rfl).2
  have hk : w1.ownsRow b 43 6 (.slice (some ⟨g, 0, none⟩) xs.length c) xs.length (xs.flatMap dvc) := h.own.kept hg (.inr (fun e => hgd.elim (fun c2 => by rw [c2] at e; cases e) (fun c2 => c2 e.symm)))
  refine ⟨own_put5 hk ht ⟨y, v'⟩ _ _ _ _ _ (by unfold dvc; rw [← hm]), fun z hz => ?_, fun i j hi hj hij => ?_⟩
  · rcases List.mem_or_eq_of_mem_set hz with c2 | c2
    · obtain ⟨i, hi, rfl⟩ := List.getElem_of_mem c2
      by_cases hit : i = t
      · subst hit
        -- the old row is not among the new ones unless it is untouched: it is then the new one's place
        obtain ⟨j, hj, hz2⟩ := List.getElem_of_mem hz
        have hj2 : j < xs.length := by simpa using hj
        rw [List.getElem_set] at hz2
        split at hz2
        · rw [← hz2]
          refine own_far ho (fun e => ?_) _ _ _ _ _ _
          rcases hv g e with q | q
          · exact hgd.elim (fun c3 => by rw [c3] at q; cases q) (fun c3 => c3 q)
          · omega
        · rename_i hne
          have hz3 := h.lns xs[j] (List.getElem_mem hj2)
          rw [hz2] at hz3
          have hap := h.apart j i hj2 hi (Ne.symm hne)
          rw [hz2] at hap
          have hn : xs[i].v.ownBlock = none := hap.elim id (fun c3 => absurd rfl c3)
          exact own_far (hz3.kept hg (.inl hn)) (by rw [hn]; simp) _ _ _ _ _ _
      · have hz3 := h.lns xs[i] (List.getElem_mem hi)
        have hty : xs[i].v.ownBlock = none ∨ xs[i].v.ownBlock ≠ some g := own_ty hz3 h.own (by decide)
        exact own_far (hz3.kept hg (h.apart i t hi ht hit)) (fun e => hty.elim (fun c3 => by rw [c3] at e; cases e) (fun c3 => c3 e)) _ _ _ _ _ _
    · rw [c2]
      refine own_far ho (fun e => ?_) _ _ _ _ _ _
      rcases hv g e with q | q
      · exact hgd.elim (fun c3 => by rw [c3] at q; cases q) (fun c3 => c3 q)
      · omega
  · have hi2 : i < xs.length := by simpa using hi
    have hj2 : j < xs.length := by simpa using hj
    rw [List.getElem_set, List.getElem_set]
    have hfar : ∀ k (hk2 : k < xs.length), k ≠ t → xs[k].v.ownBlock = none ∨ xs[k].v.ownBlock ≠ v'.ownBlock := fun k hk2 hkt => by
      rcases h.apart k t hk2 ht hkt with c2 | c2
      · exact .inl c2
      · cases hq : xs[k].v.ownBlock with
        | none => exact .inl rfl
        | some q =>
          refine .inr fun e => ?_
          rcases hv q e.symm with c3 | c3
          · exact c2 (by rw [hq, c3])
          · have := ((h.lns xs[k] (List.getElem_mem hk2)).lt q hq).2
            omega
    by_cases hit : t = i
    · rw [if_pos hit, if_neg (fun e => hij (hit.symm.trans e))]
      rcases hfar j hj2 (fun e => hij (hit.symm.trans e.symm)) with c2 | c2
      · cases hq : v'.ownBlock with
        | none => exact .inl rfl
        | some q => exact .inr (by show some q ≠ _; rw [c2]; simp)
      · exact .inr (fun e => c2 e.symm)
    · by_cases hjt : t = j
      · rw [if_neg hit, if_pos hjt]
        exact hfar i hi2 (Ne.symm hit)
      · rw [if_neg hit, if_neg hjt]
        exact h.apart i j hi2 hj2 hij
/-- A new one at the end, without lines. -/
theorem DusW.more {w1 : World} {B : Option Addr} {c : Nat} {y : Du} (h : DusW b v xs w) (hy : y.ls = []) (hg : w.grownBy w1 v.ownBlock) (ho : w1.ownsRow b 43 6 (.slice B (xs.length + 1) c) (xs.length + 1) (xs.flatMap dvc ++ dvc ⟨y, .slice none 0 0⟩)) :
    DusW b (.slice B (xs.length + 1) c) (xs ++ [⟨y, .slice none 0 0⟩]) w1 := by
  refine ⟨by rw [List.length_append, List.flatMap_append]; simpa using ho, fun z hz => ?_, fun i j hi hj hij => ?_⟩
  · rcases List.mem_append.1 hz with c2 | c2
    · have hz3 := h.lns z c2
      exact hz3.kept hg (own_ty hz3 h.own (by decide))
    · rw [List.mem_singleton.1 c2]
      show w1.ownsRow b _ 1 (.slice none 0 0) y.ls.length (ints (nats y.ls))
      rw [hy]
      exact World.ownsRow_nil _ _ _ _
  · by_cases hi2 : i < xs.length
    · by_cases hj2 : j < xs.length
      · rw [List.getElem_append_left hi2, List.getElem_append_left hj2]
        exact h.apart i j hi2 hj2 hij
      · have : j = xs.length := by simp at hj; omega
        subst this
        rw [List.getElem_append_left hi2, List.getElem_append_right (Nat.le_refl _)]
        simp only [Nat.sub_self, List.getElem_cons_zero]
        cases hq : xs[i].v.ownBlock with
        | none => exact .inl rfl
        | some q => exact .inr (by show some q ≠ none; simp)
    · have : i = xs.length := by simp at hi; omega
      subst this
      rw [List.getElem_append_right (Nat.le_refl _)]
      exact .inl (by simp only [Nat.sub_self, List.getElem_cons_zero]; rfl)
end
end Go.Proofs.Ytbdhbongaikphaa.BK
