/- Plain numbers for portions: parts, and one more each to those with the greatest rests. -/
import Derived.Test.YtmijcgcppankcaaCentsPart
namespace Go.Proofs.Ytmijcgcppankcaa.PO
open Go.Proofs.Ytmijcgcppankcaa.Cents
set_option linter.unusedVariables false
set_option linter.unusedSimpArgs false

def pr (T S : Int) (ws : List Int) : List Int := ws.map fun x => T * x / S
def rr (T S : Int) (ws : List Int) : List Int := ws.map fun x => T * x % S
/-- i's rest is ahead of k's. -/
def Dom (r : List Int) (i k : Nat) : Prop := r.getD k 0 < r.getD i 0 ∨ (r.getD i 0 = r.getD k 0 ∧ i < k)
theorem Dom.total (r : List Int) (i k : Nat) (h : i ≠ k) : Dom r i k ∨ Dom r k i := by unfold Dom; omega
theorem Dom.asymm {r : List Int} {i k : Nat} (h : Dom r i k) : ¬ Dom r k i := by unfold Dom at *; omega
instance (r : List Int) (i k : Nat) : Decidable (Dom r i k) := by unfold Dom; infer_instance

/-- How many were given one more. -/
def cnt (q : List Int) : Nat := q.countP (fun x => decide (x = -1))
/-- Behind so many rounds: o what was portioned out, q the rests. -/
structure Inv (p r o q : List Int) (n j : Nat) : Prop where
  lp : p.length = n
  lr : r.length = n
  lo : o.length = n
  lq : q.length = n
  pos : ∀ i, i < n → 0 ≤ r.getD i 0
  each : ∀ i, i < n → (q.getD i 0 = -1 ∧ o.getD i 0 = p.getD i 0 + 1 ∧ 0 < r.getD i 0) ∨ (q.getD i 0 = r.getD i 0 ∧ o.getD i 0 = p.getD i 0)
  many : cnt q = j
  dom : ∀ i k, i < n → k < n → q.getD k 0 = -1 → q.getD i 0 ≠ -1 → Dom r k i
theorem getD_set {l : List Int} {i k : Nat} {x : Int} (h : i < l.length) : (l.set i x).getD k 0 = if k = i then x else l.getD k 0 := by
  simp only [List.getD_eq_getElem?_getD, List.getElem?_set]
  by_cases c : i = k
  · subst c; simp [h]
  · rw [if_neg c, if_neg (by omega)]
theorem cnt_set {q : List Int} {i : Nat} (h : i < q.length) (hn : q.getD i 0 ≠ -1) : cnt (q.set i (-1)) = cnt q + 1 := by
  unfold cnt
  induction q generalizing i with
  | nil => simp at h
  | cons x q ih =>
    cases i with
    | zero =>
      simp at hn
      simp [List.countP_cons, hn]
    | succ i =>
      have := ih (i := i) (by simpa using h) (by simpa using hn)
      rw [List.set_cons_succ, List.countP_cons, List.countP_cons, this]
      omega
/-- The first one of the greatest. -/
structure Best (q : List Int) (n b : Nat) : Prop where
  lt : b < n
  top : ∀ i, i < n → q.getD i 0 ≤ q.getD b 0
  first : ∀ i, i < b → q.getD i 0 < q.getD b 0
theorem Inv.step {p r o q : List Int} {n j b : Nat} (h : Inv p r o q n j) (hb : Best q n b) (hp : 0 < q.getD b 0) : Inv p r (o.set b (o.getD b 0 + 1)) (q.set b (-1)) n (j + 1) := by
  have hbn := hb.lt
  have hbr : q.getD b 0 = r.getD b 0 ∧ o.getD b 0 = p.getD b 0 := by
    rcases h.each b hbn with e | e
    · omega
    · exact e
  refine ⟨h.lp, h.lr, by simp [h.lo], by simp [h.lq], h.pos, fun i hi => ?_, ?_, fun i k hi hk h1 h2 => ?_⟩
  · rw [getD_set (by rw [h.lq]; exact hbn), getD_set (by rw [h.lo]; exact hbn)]
    by_cases c : i = b
    · subst c
      rw [if_pos rfl, if_pos rfl]
      exact .inl ⟨rfl, by omega, by omega⟩
    · rw [if_neg c, if_neg c]; exact h.each i hi
  · rw [cnt_set (by rw [h.lq]; exact hbn) (by omega), h.many]
  · rw [getD_set (by rw [h.lq]; exact hbn)] at h1 h2
    by_cases ci : i = b
    · rw [if_pos ci] at h2; exact absurd rfl h2
    · rw [if_neg ci] at h2
      by_cases ck : k = b
      · subst ck
        have hti := hb.top i hi
        have hqi : q.getD i 0 = r.getD i 0 := by
          rcases h.each i hi with e | e
          · exact absurd e.1 h2
          · exact e.1
        unfold Dom
        rcases Nat.lt_or_ge i k with c | c
        · have := hb.first i c
          left; omega
        · by_cases e : r.getD i 0 = r.getD k 0
          · right; omega
          · left; omega
      · rw [if_neg ck] at h1
        exact h.dom i k hi hk h1 h2
/-- Where no rest is left, those that were given one more bear all rests. -/
theorem rests_le {r q : List Int} {n : Nat} {S : Int} (hS : 1 ≤ S) (lr : r.length = n) (lq : q.length = n) (hr : ∀ i, i < n → r.getD i 0 < S) (hz : ∀ i, i < n → q.getD i 0 ≠ -1 → r.getD i 0 ≤ 0) : r.sum ≤ (S - 1) * (cnt q : Int) := by
  induction r generalizing q n with
  | nil =>
    have : 0 ≤ (S - 1) * (cnt q : Int) := Int.mul_nonneg (by omega) (by omega)
    simpa using this
  | cons x r ih =>
    cases q with
    | nil => simp at lr lq; omega
    | cons y q =>
      obtain ⟨m, rfl⟩ : ∃ m, n = m + 1 := ⟨n - 1, by simp at lr; omega⟩
      have h1 := ih (q := q) (n := m) (by simpa using lr) (by simpa using lq) (fun i hi => by simpa using hr (i + 1) (by omega)) (fun i hi h => by simpa using hz (i + 1) (by omega) (by simpa using h))
      have h2 := hr 0 (by omega)
      have h3 := hz 0 (by omega)
      simp only [List.getD_cons_zero] at h2 h3
      unfold cnt at *
      rw [List.sum_cons, List.countP_cons]
      by_cases c : y = -1
      · rw [if_pos (by simpa using c)]
        rw [show ((List.countP (fun x => decide (x = -1)) q + 1 : Nat) : Int) = (List.countP (fun x => decide (x = -1)) q : Int) + 1 by omega, Int.mul_add]
        omega
      · rw [if_neg (by simpa using c), Nat.add_zero]
        have := h3 c
        omega
/-- While some are missing, the greatest rest isn't 0. -/
theorem Inv.some {p r o q : List Int} {n j b : Nat} {S : Int} {M : Nat} (h : Inv p r o q n j) (hb : Best q n b) (hS : 1 ≤ S) (hr : ∀ i, i < n → r.getD i 0 < S) (hM : r.sum = S * M) (hj : j < M) : 0 < q.getD b 0 := by
  rcases Int.lt_or_le 0 (q.getD b 0) with c | c
  · exact c
  · exfalso
    have h1 := rests_le hS h.lr h.lq hr (fun i hi hn => by
      have := hb.top i hi
      rcases h.each i hi with e | e
      · exact absurd e.1 hn
      · omega)
    rw [h.many, hM] at h1
    have h2 : (S - 1) * (j : Int) ≤ S * (j : Int) := Int.mul_le_mul_of_nonneg_right (by omega) (by omega)
    have h3 : S * (j : Int) + S ≤ S * (M : Int) := by
      have : S * ((j : Int) + 1) ≤ S * (M : Int) := Int.mul_le_mul_of_nonneg_left (by omega) (by omega)
      rw [Int.mul_add] at this
      omega
    omega
theorem sum_getD {p o q : List Int} {n : Nat} (lp : p.length = n) (lo : o.length = n) (lq : q.length = n) (h : ∀ i, i < n → (q.getD i 0 = -1 ∧ o.getD i 0 = p.getD i 0 + 1) ∨ (q.getD i 0 ≠ -1 ∧ o.getD i 0 = p.getD i 0)) : o.sum = p.sum + cnt q := by
  induction p generalizing o q n with
  | nil =>
    cases o with
    | nil => cases q with
      | nil => simp [cnt]
      | cons _ _ => simp at lp lq; omega
    | cons _ _ => simp at lp lo; omega
  | cons x p ih =>
    cases o with
    | nil => simp at lp lo; omega
    | cons y o =>
      cases q with
      | nil => simp at lp lq; omega
      | cons z q =>
        obtain ⟨m, rfl⟩ : ∃ m, n = m + 1 := ⟨n - 1, by simp at lp; omega⟩
        have h1 := ih (o := o) (q := q) (n := m) (by simpa using lp) (by simpa using lo) (by simpa using lq) (fun i hi => by simpa using h (i + 1) (by omega))
        have h2 := h 0 (by omega)
        simp only [List.getD_cons_zero] at h2
        unfold cnt at *
        rw [List.sum_cons, List.sum_cons, List.countP_cons, h1]
        rcases h2 with ⟨h3, h4⟩ | ⟨h3, h4⟩
        · rw [if_pos (by simpa using h3), h4]; omega
        · rw [if_neg (by simpa using h3), h4]; omega
theorem Inv.sum {p r o q : List Int} {n j : Nat} (h : Inv p r o q n j) : o.sum = p.sum + j := by
  have := sum_getD h.lp h.lo h.lq (fun i hi => by
    have hp := h.pos i hi
    rcases h.each i hi with e | e
    · exact .inl ⟨e.1, e.2.1⟩
    · exact .inr ⟨by omega, e.2⟩)
  rw [this, h.many]
end Go.Proofs.Ytmijcgcppankcaa.PO
