/- Plain numbers for portions: by ranks; steps. -/
import Derived.Test.YtmijcgcppankcaaPortionMath2
import Derived.Test.YtmijcgcppankcaaSum
namespace Go.Proofs.Ytmijcgcppankcaa.PO
open Go.Proofs.Ytmijcgcppankcaa.Cents
set_option linter.unusedVariables false
set_option linter.unusedSimpArgs false

theorem count_succ (P : Nat → Bool) (n : Nat) : (List.range (n + 1)).countP P = (List.range n).countP P + if P n = true then 1 else 0 := by
  rw [List.range_succ, List.countP_append]
  simp [List.countP_cons]
theorem count_le {P Q : Nat → Bool} (n : Nat) (h : ∀ k, k < n → P k = true → Q k = true) : (List.range n).countP P ≤ (List.range n).countP Q := by
  induction n with
  | zero => simp
  | succ n ih =>
    have h1 := ih (fun k hk => h k (by omega))
    have h2 := h n (by omega)
    rw [count_succ, count_succ]
    by_cases c : P n = true
    · rw [if_pos c, if_pos (h2 c)]; omega
    · rw [if_neg c]; omega
theorem count_lt {P Q : Nat → Bool} (n i : Nat) (hi : i < n) (h : ∀ k, k < n → P k = true → Q k = true) (hP : P i = false) (hQ : Q i = true) : (List.range n).countP P + 1 ≤ (List.range n).countP Q := by
  induction n with
  | zero => omega
  | succ n ih =>
    rw [count_succ, count_succ]
    by_cases c : i = n
    · subst c
      have h1 := count_le i (fun k hk => h k (by omega))
      rw [hP, hQ]; simp; omega
    · have h1 := ih (by omega) (fun k hk => h k (by omega))
      have h2 := h n (by omega)
      by_cases c : P n = true
      · rw [if_pos c, if_pos (h2 c)]; omega
      · rw [if_neg c]; omega
theorem cnt_range {q : List Int} {n : Nat} (h : q.length = n) : cnt q = (List.range n).countP (fun k => decide (q.getD k 0 = -1)) := by
  subst h
  unfold cnt
  induction q with
  | nil => simp
  | cons x q ih =>
    rw [List.countP_cons, ih, List.length_cons, List.range_succ_eq_map, List.countP_cons, List.countP_map]
    rfl
def rank (r : List Int) (n i : Nat) : Nat := (List.range n).countP (fun k => decide (Dom r k i))
theorem Inv.rank {p r o q : List Int} {n j : Nat} (h : Inv p r o q n j) {i : Nat} (hi : i < n) : q.getD i 0 = -1 ↔ PO.rank r n i < j := by
  have hm := h.many
  rw [cnt_range h.lq] at hm
  unfold PO.rank
  constructor
  · intro hq
    have := count_lt (P := fun k => decide (Dom r k i)) (Q := fun k => decide (q.getD k 0 = -1)) n i hi (fun k hk hd => by
      simp only [decide_eq_true_eq] at hd ⊢
      rcases Classical.em (q.getD k 0 = -1) with c | c
      · exact c
      · exact absurd (h.dom k i hk hi hq c) (Dom.asymm hd)) (by simp [Dom]) (by simpa using hq)
    omega
  · intro hr
    rcases Classical.em (q.getD i 0 = -1) with c | c
    · exact c
    · exfalso
      have := count_le (P := fun k => decide (q.getD k 0 = -1)) (Q := fun k => decide (Dom r k i)) n (fun k hk hk1 => by
        simp only [decide_eq_true_eq] at hk1 ⊢
        exact h.dom i k hi hk hk1 c)
      omega
/-- The portions of T, in one row. -/
def outL (T S : Int) (ws : List Int) : List Int := (List.range ws.length).map fun i => T * ws.getD i 0 / S + if rank (rr T S ws) ws.length i < (T - (pr T S ws).sum).toNat then 1 else 0
theorem OutOk.eq {T S : Int} {ws o : List Int} (h : OutOk T S ws o) (hw : Wts T S ws) : o = outL T S ws := by
  obtain ⟨q, M, hv, hM⟩ := h.ex
  apply List.ext_getElem
  · rw [hv.lo]; simp [outL]
  · intro i h1 h2
    have hi : i < ws.length := by rw [hv.lo] at h1; exact h1
    have e : o[i] = o.getD i 0 := by simp [List.getD_eq_getElem?_getD, h1]
    rw [e]
    simp only [outL, List.getElem_map, List.getElem_range]
    have hr := hv.rank hi
    have hp := (hw.p hi).1
    rw [← hM, Int.toNat_natCast]
    rcases hv.each i hi with a | a
    · rw [if_pos (hr.1 a.1), a.2.1, hp]
    · rw [if_neg (fun c => by have := hr.2 c; have := hv.pos i hi; omega), a.2, hp]; omega

/-! What Out answers. -/
def wE (ws : List Int) : Int := if 64 < ws.length then 4 else if ws.any (fun x => decide (x < 0)) = true then 1 else if ws.any (fun x => decide (0 < x)) = true then sumE ws.sum else 1
def wN (ws : List Int) : Int := if wE ws = 0 then ws.sum else 0
def outE (T : Int) (ws : List Int) : Int := if wE ws = 0 then (if T = -9223372036854775808 then 3 else 0) else wE ws
def outV (T : Int) (ws : List Int) : List Int := if outE T ws = 0 then (outL (max (0 - T) T) ws.sum ws).map (fun x => if T < 0 then -x else x) else []
theorem wE_ok {ws : List Int} (h : wE ws = 0) : ws.length ≤ 64 ∧ (∀ x ∈ ws, 0 ≤ x) ∧ 1 ≤ ws.sum ∧ I64 ws.sum ∧ 1 ≤ ws.length := by
  unfold wE at h
  split at h
  · omega
  · rename_i h1
    split at h
    · omega
    · rename_i h2
      split at h
      · rename_i h3
        have hp : ∀ x ∈ ws, 0 ≤ x := fun x hx => by
          have h4 : ws.any (fun x => decide (x < 0)) = false := by simpa using h2
          rw [List.any_eq_false] at h4
          have := h4 x hx
          simp at this; exact this
        rw [List.any_eq_true] at h3
        obtain ⟨x, hx, hx0⟩ := h3
        simp at hx0
        obtain ⟨i, hi, e⟩ := List.getElem_of_mem hx
        have := (weight_le hp i hi).2
        rw [List.getD_eq_getElem?_getD, List.getElem?_eq_getElem hi] at this
        simp only [Option.getD_some] at this
        rw [e] at this
        refine ⟨by omega, hp, by omega, ?_, by omega⟩
        unfold sumE at h
        by_cases c : I64 ws.sum
        · exact c
        · rw [if_neg c] at h; omega
      · omega
theorem outE_ok {T : Int} {ws : List Int} (h : outE T ws = 0) : wE ws = 0 ∧ T ≠ -9223372036854775808 := by
  unfold outE at h
  by_cases c : wE ws = 0
  · rw [if_pos c] at h
    by_cases d : T = -9223372036854775808
    · rw [if_pos d] at h; omega
    · exact ⟨c, d⟩
  · rw [if_neg c] at h; exact absurd h c
theorem outE_wts {T : Int} {ws : List Int} (h : outE T ws = 0) : Wts (max (0 - T) T) ws.sum ws := by
  obtain ⟨h1, h2⟩ := outE_ok h
  obtain ⟨_, hp, h1, _, _⟩ := wE_ok h1
  exact ⟨by omega, hp, rfl, h1⟩
end Go.Proofs.Ytmijcgcppankcaa.PO
