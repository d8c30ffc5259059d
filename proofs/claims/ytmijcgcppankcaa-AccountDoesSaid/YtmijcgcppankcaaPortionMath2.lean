/- Plain numbers for portions: what is portioned out; steps. -/
import Derived.Test.YtmijcgcppankcaaPortionMath
namespace Go.Proofs.Ytmijcgcppankcaa.PO
open Go.Proofs.Ytmijcgcppankcaa.Cents
set_option linter.unusedVariables false
set_option linter.unusedSimpArgs false

theorem map_getD {f : Int → Int} {l : List Int} {i : Nat} (h : i < l.length) : (l.map f).getD i 0 = f (l.getD i 0) := by
  simp [List.getD_eq_getElem?_getD, h]
theorem sums (T S : Int) (ws : List Int) : S * (pr T S ws).sum + (rr T S ws).sum = T * ws.sum := by
  induction ws with
  | nil => simp [pr, rr]
  | cons x ws ih =>
    have h := Int.mul_ediv_add_emod (T * x) S
    unfold pr rr at *
    simp only [List.map_cons, List.sum_cons]
    rw [Int.mul_add, Int.mul_add]
    omega
theorem weight_le {ws : List Int} (hw : ∀ x ∈ ws, 0 ≤ x) : ∀ i, i < ws.length → 0 ≤ ws.getD i 0 ∧ ws.getD i 0 ≤ ws.sum := by
  induction ws with
  | nil => intro i hi; simp at hi
  | cons x ws ih =>
    have h0 := hw x (by simp)
    have hs : 0 ≤ ws.sum := by
      clear ih
      induction ws with
      | nil => simp
      | cons y ws ih =>
        have := hw y (by simp)
        have := ih (fun z hz => hw z (by simp at hz ⊢; rcases hz with h | h <;> simp [h]))
        rw [List.sum_cons]; omega
    intro i hi
    cases i with
    | zero => simp; omega
    | succ i =>
      have := ih (fun y hy => hw y (by simp [hy])) i (by simpa using hi)
      simp at this ⊢
      omega

/-- What was portioned out of T by the weights ws. -/
structure OutOk (T S : Int) (ws o : List Int) : Prop where
  ex : ∃ (q : List Int) (M : Nat), Inv (pr T S ws) (rr T S ws) o q ws.length M ∧ (M : Int) = T - (pr T S ws).sum
structure Wts (T S : Int) (ws : List Int) : Prop where
  t0 : 0 ≤ T
  pos : ∀ x ∈ ws, 0 ≤ x
  sum : ws.sum = S
  one : 1 ≤ S
theorem Wts.r {T S : Int} {ws : List Int} (h : Wts T S ws) {i : Nat} (hi : i < ws.length) : (rr T S ws).getD i 0 = T * ws.getD i 0 % S ∧ 0 ≤ (rr T S ws).getD i 0 ∧ (rr T S ws).getD i 0 < S := by
  have e : (rr T S ws).getD i 0 = T * ws.getD i 0 % S := map_getD (f := fun x => T * x % S) hi
  rw [e]
  exact ⟨rfl, Int.emod_nonneg _ (by have := h.one; omega), Int.emod_lt_of_pos _ (by have := h.one; omega)⟩
theorem Wts.p {T S : Int} {ws : List Int} (h : Wts T S ws) {i : Nat} (hi : i < ws.length) : (pr T S ws).getD i 0 = T * ws.getD i 0 / S ∧ 0 ≤ (pr T S ws).getD i 0 ∧ (pr T S ws).getD i 0 ≤ T := by
  have e : (pr T S ws).getD i 0 = T * ws.getD i 0 / S := map_getD (f := fun x => T * x / S) hi
  rw [e]
  obtain ⟨w0, w1⟩ := weight_le h.pos i hi
  rw [h.sum] at w1
  refine ⟨rfl, Int.ediv_nonneg (Int.mul_nonneg h.t0 w0) (by have := h.one; omega), ?_⟩
  apply Int.ediv_le_of_le_mul (by have := h.one; omega)
  exact Int.mul_le_mul_of_nonneg_left w1 h.t0
theorem Wts.rest {T S : Int} {ws : List Int} (h : Wts T S ws) : (rr T S ws).sum = S * (T - (pr T S ws).sum) := by
  have := sums T S ws
  rw [h.sum] at this
  rw [Int.mul_sub, Int.mul_comm S T]; omega
theorem sum_nonneg {l : List Int} (h : ∀ i, i < l.length → 0 ≤ l.getD i 0) : 0 ≤ l.sum := by
  induction l with
  | nil => simp
  | cons x l ih =>
    have h0 := h 0 (by simp)
    have := ih (fun i hi => by simpa using h (i + 1) (by simpa using hi))
    simp only [List.getD_cons_zero] at h0
    rw [List.sum_cons]; omega
theorem Wts.missing {T S : Int} {ws : List Int} (h : Wts T S ws) : 0 ≤ T - (pr T S ws).sum := by
  have h1 : 0 ≤ (rr T S ws).sum := sum_nonneg (fun i hi => (h.r (i := i) (by simpa [rr] using hi)).2.1)
  rw [h.rest] at h1
  rcases Int.lt_or_le (T - (pr T S ws).sum) 0 with c | c
  · exfalso
    have : S * (T - (pr T S ws).sum) ≤ 1 * (T - (pr T S ws).sum) := Int.mul_le_mul_of_nonpos_right h.one (by omega)
    omega
  · exact c
theorem Wts.start {T S : Int} {ws : List Int} (h : Wts T S ws) : Inv (pr T S ws) (rr T S ws) (pr T S ws) (rr T S ws) ws.length 0 := by
  refine ⟨by simp [pr], by simp [rr], by simp [pr], by simp [rr], fun i hi => (h.r hi).2.1, fun i hi => .inr ⟨rfl, rfl⟩, ?_, fun i k hi hk h1 _ => ?_⟩
  · unfold cnt
    rw [List.countP_eq_zero]
    intro x hx
    unfold rr at hx
    rw [List.mem_map] at hx
    obtain ⟨y, hy, rfl⟩ := hx
    have := Int.emod_nonneg (T * y) (show S ≠ 0 by have := h.one; omega)
    simp; omega
  · have := (h.r hk).2.1
    omega
theorem le_sum {l : List Int} (h : ∀ i, i < l.length → 0 ≤ l.getD i 0) : ∀ i, i < l.length → l.getD i 0 ≤ l.sum := by
  induction l with
  | nil => intro i hi; simp at hi
  | cons x l ih =>
    have h0 := h 0 (by simp)
    have ht : ∀ i, i < l.length → 0 ≤ l.getD i 0 := fun i hi => by simpa using h (i + 1) (by simpa using hi)
    have hs := sum_nonneg ht
    simp only [List.getD_cons_zero] at h0
    intro i hi
    cases i with
    | zero => simp; omega
    | succ i =>
      have := ih ht i (by simpa using hi)
      simp only [List.getD_cons_succ, List.sum_cons]; omega
section
variable {T S : Int} {ws o : List Int}
theorem OutOk.len (h : OutOk T S ws o) : o.length = ws.length := by obtain ⟨q, M, hi, _⟩ := h.ex; exact hi.lo
theorem OutOk.sum (h : OutOk T S ws o) : o.sum = T := by
  obtain ⟨q, M, hi, hM⟩ := h.ex
  rw [hi.sum]; omega
theorem OutOk.each (h : OutOk T S ws o) (hw : Wts T S ws) {i : Nat} (hi : i < ws.length) : o.getD i 0 = T * ws.getD i 0 / S ∨ (o.getD i 0 = T * ws.getD i 0 / S + 1 ∧ 0 < T * ws.getD i 0 % S) := by
  obtain ⟨q, M, hv, _⟩ := h.ex
  rw [← (hw.p hi).1, ← (hw.r hi).1]
  rcases hv.each i hi with e | e
  · exact .inr ⟨e.2.1, e.2.2⟩
  · exact .inl e.2
theorem OutOk.pos (h : OutOk T S ws o) (hw : Wts T S ws) {i : Nat} (hi : i < ws.length) : 0 ≤ o.getD i 0 ∧ o.getD i 0 ≤ T := by
  have hp : ∀ i, i < o.length → 0 ≤ o.getD i 0 := fun i hi => by
    rw [h.len] at hi
    have hp := hw.p hi
    have he := h.each hw hi
    rw [← hp.1] at he
    rcases he with e | e <;> omega
  have := le_sum hp i (by rw [h.len]; exact hi)
  rw [h.sum] at this
  exact ⟨hp i (by rw [h.len]; exact hi), this⟩
theorem OutOk.zero (h : OutOk T S ws o) (hw : Wts T S ws) {i : Nat} (hi : i < ws.length) (h0 : ws.getD i 0 = 0) : o.getD i 0 = 0 := by
  have := h.each hw hi
  rw [h0] at this
  simp at this
  exact this
theorem OutOk.mono (h : OutOk T S ws o) (hw : Wts T S ws) {i k : Nat} (hi : i < ws.length) (hk : k < ws.length) (hlt : ws.getD k 0 < ws.getD i 0) : o.getD k 0 ≤ o.getD i 0 := by
  obtain ⟨q, M, hv, _⟩ := h.ex
  have hpi := (hw.p hi).1
  have hpk := (hw.p hk).1
  have hri := (hw.r hi).1
  have hrk := (hw.r hk).1
  have ei := Int.mul_ediv_add_emod (T * ws.getD i 0) S
  have ek := Int.mul_ediv_add_emod (T * ws.getD k 0) S
  rw [← hpi, ← hri] at ei
  rw [← hpk, ← hrk] at ek
  have hTle : T * ws.getD k 0 ≤ T * ws.getD i 0 := Int.mul_le_mul_of_nonneg_left (by omega) hw.t0
  have hple : (pr T S ws).getD k 0 ≤ (pr T S ws).getD i 0 := by
    rw [hpi, hpk]; exact Int.ediv_le_ediv (by have := hw.one; omega) hTle
  have vi := hv.each i hi
  have vk := hv.each k hk
  rcases Int.lt_or_le ((pr T S ws).getD k 0) ((pr T S ws).getD i 0) with c | c
  · rcases vi with a | a <;> rcases vk with b | b <;> omega
  · have hpe : (pr T S ws).getD i 0 = (pr T S ws).getD k 0 := by omega
    rcases vk with b | b
    · rcases vi with a | a
      · omega
      · exfalso
        have hdom := hv.dom i k hi hk b.1 (by have := hv.pos i hi; omega)
        have hrle : (rr T S ws).getD k 0 ≤ (rr T S ws).getD i 0 := by rw [hpe] at ei; omega
        rcases Int.lt_or_le 0 T with t | t
        · have hT2 : T * ws.getD k 0 + T ≤ T * ws.getD i 0 := by
            have : T * (ws.getD k 0 + 1) ≤ T * ws.getD i 0 := Int.mul_le_mul_of_nonneg_left (by omega) hw.t0
            rw [Int.mul_add] at this; omega
          rw [hpe] at ei
          unfold Dom at hdom
          omega
        · have hT0 : T = 0 := by have := hw.t0; omega
          subst hT0
          rw [hrk] at b
          simp at b
    · rcases vi with a | a <;> omega
end
end Go.Proofs.Ytmijcgcppankcaa.PO
