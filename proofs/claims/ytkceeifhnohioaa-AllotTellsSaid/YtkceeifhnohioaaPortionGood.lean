/- Plain numbers for portions: what Out answers is as the laws say. -/
import Derived.Test.YtkceeifhnohioaaPortionMath3
namespace Go.Proofs.Ytkceeifhnohioaa.PO
open Go.Proofs.Ytkceeifhnohioaa.Cents
set_option linter.unusedVariables false
set_option linter.unusedSimpArgs false

theorem best_any (q : List Int) (n : Nat) (h : 1 ≤ n) : ∃ b, Best q n b := by
  induction n with
  | zero => omega
  | succ n ih =>
    by_cases hn : n = 0
    · subst hn
      exact ⟨0, by omega, fun i hi => by rw [show i = 0 by omega]; exact Int.le_refl _, fun i hi => by omega⟩
    · obtain ⟨b, hb⟩ := ih (by omega)
      by_cases c : q.getD b 0 < q.getD n 0
      · refine ⟨n, by omega, fun i hi => ?_, fun i hi => ?_⟩
        · rcases Nat.lt_or_ge i n with d | d
          · have := hb.top i d; omega
          · rw [show i = n by omega]; exact Int.le_refl _
        · have := hb.top i hi; omega
      · refine ⟨b, by have := hb.lt; omega, fun i hi => ?_, hb.first⟩
        rcases Nat.lt_or_ge i n with d | d
        · exact hb.top i d
        · rw [show i = n by omega]; omega
theorem outL_ok {T S : Int} {ws : List Int} (hw : Wts T S ws) (hn : 1 ≤ ws.length) : OutOk T S ws (outL T S ws) := by
  obtain ⟨M, hM⟩ := Int.eq_ofNat_of_zero_le hw.missing
  have : ∀ j, j ≤ M → ∃ o q, Inv (pr T S ws) (rr T S ws) o q ws.length j := by
    intro j
    induction j with
    | zero => intro _; exact ⟨_, _, hw.start⟩
    | succ j ih =>
      intro hj
      obtain ⟨o, q, hi⟩ := ih (by omega)
      obtain ⟨b, hb⟩ := best_any q ws.length hn
      exact ⟨_, _, hi.step hb (hi.some hb hw.one (fun i hi => (hw.r hi).2.2) (by rw [hw.rest, hM]) (by omega))⟩
  obtain ⟨o, q, hi⟩ := this M (Nat.le_refl _)
  have ho : OutOk T S ws o := ⟨q, M, hi, hM.symm⟩
  rw [← ho.eq hw]
  exact ho
theorem neg_div {a S : Int} (hS : 1 ≤ S) : (a % S = 0 ∧ (-a) % S = 0 ∧ (-a) / S = -(a / S)) ∨ (0 < a % S ∧ 0 < (-a) % S ∧ (-a) / S = -(a / S) - 1) := by
  have e1 := Int.mul_ediv_add_emod a S
  have e2 := Int.mul_ediv_add_emod (-a) S
  have r1 := Int.emod_nonneg a (show S ≠ 0 by omega)
  have r2 := Int.emod_nonneg (-a) (show S ≠ 0 by omega)
  have s1 := Int.emod_lt_of_pos a (show 0 < S by omega)
  have s2 := Int.emod_lt_of_pos (-a) (show 0 < S by omega)
  generalize a / S = q1 at *
  generalize (-a) / S = q2 at *
  generalize a % S = r at *
  generalize (-a) % S = s at *
  have e : S * (q1 + q2) = -(r + s) := by rw [Int.mul_add]; omega
  have d1 : ¬ 1 ≤ q1 + q2 := fun c => by
    have := Int.mul_le_mul_of_nonneg_left c (show 0 ≤ S by omega)
    omega
  have d2 : ¬ q1 + q2 ≤ -2 := fun c => by
    have := Int.mul_le_mul_of_nonneg_left c (show 0 ≤ S by omega)
    omega
  have d3 : q1 + q2 = 0 ∨ q1 + q2 = -1 := by omega
  rcases d3 with d | d
  · rw [d] at e; left; omega
  · rw [d] at e; right; omega
/-- What the laws want of portions. -/
structure Good (T S : Int) (ws V : List Int) : Prop where
  len : V.length = ws.length
  sum : V.sum = T
  up : 0 ≤ T → ∀ i, i < ws.length → 0 ≤ V.getD i 0 ∧ V.getD i 0 ≤ T
  dn : T ≤ 0 → ∀ i, i < ws.length → T ≤ V.getD i 0 ∧ V.getD i 0 ≤ 0
  zero : ∀ i, i < ws.length → ws.getD i 0 = 0 → V.getD i 0 = 0
  near : ∀ i, i < ws.length → V.getD i 0 = T * ws.getD i 0 / S ∨ (V.getD i 0 - 1 = T * ws.getD i 0 / S ∧ T * ws.getD i 0 % S ≠ 0)
  mono : 0 ≤ T → ∀ i k, i < ws.length → k < ws.length → ws.getD k 0 < ws.getD i 0 → V.getD k 0 ≤ V.getD i 0
theorem sum_neg (l : List Int) : (l.map (fun x => -x)).sum = -l.sum := by
  induction l with
  | nil => simp
  | cons x l ih => rw [List.map_cons, List.sum_cons, List.sum_cons, ih]; omega
theorem outV_bad {T : Int} {ws : List Int} (h : outE T ws ≠ 0) : outV T ws = [] := by
  unfold outV; rw [if_neg h]
theorem outV_good {T : Int} {ws : List Int} (h : outE T ws = 0) : Good T ws.sum ws (outV T ws) := by
  have hw := outE_wts h
  have hlen := (wE_ok (outE_ok h).1).2.2.2.2
  have ho := outL_ok hw hlen
  unfold outV
  rw [if_pos h]
  by_cases hT : T < 0
  · rw [show max (0 - T) T = -T by omega] at hw ho ⊢
    simp only [hT, if_true]
    have hg : ∀ i, i < ws.length → ((outL (-T) ws.sum ws).map (fun x => -x)).getD i 0 = -((outL (-T) ws.sum ws).getD i 0) := fun i hi => map_getD (f := fun x => -x) (by rw [ho.len]; exact hi)
    refine ⟨by rw [List.length_map, ho.len], by rw [sum_neg, ho.sum]; omega, fun c => by omega, fun _ i hi => ?_, fun i hi h0 => ?_, fun i hi => ?_, fun c => by omega⟩
    · rw [hg i hi]; have := ho.pos hw hi; omega
    · rw [hg i hi, ho.zero hw hi h0]; rfl
    · rw [hg i hi]
      have he := ho.each hw hi
      rw [Int.neg_mul] at he
      rcases neg_div (a := T * ws.getD i 0) hw.one with d | d
      · rcases he with e | e <;> omega
      · rcases he with e | e <;> omega
  · rw [show max (0 - T) T = T by omega] at hw ho ⊢
    simp only [hT, if_false, List.map_id']
    refine ⟨ho.len, ho.sum, fun _ i hi => ho.pos hw hi, fun c i hi => ?_, fun i hi h0 => ho.zero hw hi h0, fun i hi => ?_, fun _ i k hi hk hlt => ho.mono hw hi hk hlt⟩
    · have := ho.pos hw hi; omega
    · rcases ho.each hw hi with e | e
      · exact .inl e
      · exact .inr ⟨by omega, by omega⟩
theorem Good.I {T S : Int} {ws V : List Int} (h : Good T S ws V) (hT : I64 T) : ∀ x ∈ V, I64 x := by
  intro x hx
  obtain ⟨i, hi, rfl⟩ := List.getElem_of_mem hx
  have e : V[i] = V.getD i 0 := by simp [List.getD_eq_getElem?_getD, hi]
  rw [e]
  rw [h.len] at hi
  unfold I64 at *
  rcases Int.le_total 0 T with c | c
  · have := h.up c i hi; omega
  · have := h.dn c i hi; omega
end Go.Proofs.Ytkceeifhnohioaa.PO
