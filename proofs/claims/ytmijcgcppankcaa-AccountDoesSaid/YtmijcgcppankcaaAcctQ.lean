/- What is closed stays; a new entry's period is an open one: plain laws. -/
import Derived.Test.YtmijcgcppankcaaAcctU
namespace Go.Proofs.Ytmijcgcppankcaa.AC
open Go.RowKit Go.Proofs.Ytmijcgcppankcaa.Cents Go.Proofs.Ytmijcgcppankcaa.MV Go.Proofs.Ytmijcgcppankcaa.Net Go.Proofs.Ytmijcgcppankcaa.CO
open Go.Maps (Keyed)
set_option linter.unusedVariables false
set_option linter.unusedSimpArgs false

theorem pE_ok {per : Nat} {s : St} {x : Int} {ps : List Post} (h : pE per s x ps = 0) : chkE per s.opn s.es.length x ps = 0 := by
  unfold pE at h
  by_cases hc : chkE per s.opn s.es.length x ps = 0
  · exact hc
  · rw [if_neg hc] at h; exact h
theorem rE_ok {per : Nat} {s : St} {at_ x : Int} (h : rE per s at_ x = 0) : hasP s.es.length at_ ∧ (s.es.getD at_.toNat e0).turned = false ∧ (∀ p ∈ (s.es.getD at_.toNat e0).ps, I64 (0 - p.amt)) ∧ pE per s x (negP (s.es.getD at_.toNat e0).ps) = 0 := by
  unfold rE at h
  by_cases h1 : ¬ hasP s.es.length at_
  · rw [if_pos h1] at h; omega
  · rw [if_neg h1] at h
    by_cases h2 : (s.es.getD at_.toNat e0).turned = true
    · rw [if_pos h2] at h; omega
    · rw [if_neg h2] at h
      by_cases h3 : ∃ p ∈ (s.es.getD at_.toNat e0).ps, ¬ I64 (0 - p.amt)
      · rw [if_pos h3] at h; omega
      · rw [if_neg h3] at h
        exact ⟨Classical.byContradiction h1, by cases hb : (s.es.getD at_.toNat e0).turned with | false => rfl | true => exact absurd hb h2, fun p hp => Classical.byContradiction fun c => h3 ⟨p, hp, c⟩, h⟩
theorem movL_turn (es : List Ent) (i : Nat) (a c : Int) (q : Nat) : movL (turnE es i) a c q = movL es a c q := by
  unfold movL turnE
  congr 1
  apply List.ext_getElem
  · simp
  · intro j h1 h2
    simp only [List.getElem_map, List.getElem_set]
    by_cases h : i = j
    · subst h
      have hj : i < es.length := by simpa using h2
      rw [if_pos rfl]
      simp [List.getD_eq_getElem?_getD, hj]
    · rw [if_neg h]
/-- What is closed at b stays. -/
def Stays (b : Int) (s s' : St) : Prop := s.opn ≤ s'.opn ∧ ∀ a c (q : Nat), (q : Int) < b → movL s'.es a c q = movL s.es a c q
theorem Stays.refl (b : Int) (s : St) : Stays b s s := ⟨Int.le_refl _, fun _ _ _ _ => rfl⟩
theorem Stays.trans {b : Int} {s s1 s2 : St} (h : Stays b s s1) (k : Stays b s1 s2) : Stays b s s2 := ⟨Int.le_trans h.1 k.1, fun a c q hq => (k.2 a c q hq).trans (h.2 a c q hq)⟩
theorem stays_snoc {b : Int} {s : St} {x : Int} {ps : List Post} {t : Bool} {es : List Ent} (hb : b ≤ s.opn) (hx : s.opn ≤ x) (he : ∀ a c q, movL es a c q = movL s.es a c q) : Stays b s ⟨s.opn, es ++ [⟨x.toNat, ps, t⟩]⟩ :=
  ⟨Int.le_refl _, fun a c q hq => by
    rw [movL_snoc, he, if_neg (show ¬ x.toNat = q by omega)]; omega⟩
theorem stays_op {per : Nat} {b : Int} {s : St} {o : OpV} (hb : b ≤ s.opn) : Stays b s (oS per s o) := by
  by_cases hE : oE per s o = 0
  · unfold oE at hE
    unfold oS
    by_cases h0 : o.d = 0
    · rw [if_pos h0] at hE ⊢
      unfold pS
      rw [if_pos hE]
      obtain ⟨q, hq, _, _, _, _, hox, _, _⟩ := chk_ok (pE_ok hE)
      exact stays_snoc hb hox (fun _ _ _ => rfl)
    · rw [if_neg h0] at hE ⊢
      by_cases h1 : o.d = 1
      · rw [if_pos h1] at hE ⊢
        unfold rS
        rw [if_pos hE]
        obtain ⟨_, _, _, h4⟩ := rE_ok hE
        obtain ⟨q, hq, _, _, _, _, hox, _, _⟩ := chk_ok (pE_ok h4)
        exact stays_snoc hb hox (fun a c q => movL_turn _ _ _ _ _)
      · rw [if_neg h1] at hE ⊢
        unfold cS
        rw [if_pos hE]
        exact ⟨by show s.opn ≤ s.opn + 1; omega, fun _ _ _ _ => rfl⟩
  · rw [oS_bad hE]; exact Stays.refl _ _
theorem getD_last (es : List Ent) (e : Ent) (n : Nat) (h : es.length = n) : (es ++ [e]).getD n e0 = e := by
  rw [List.getD_eq_getElem?_getD, List.getElem?_append_right (by omega), h, Nat.sub_self]; rfl
theorem turnE_len (es : List Ent) (i : Nat) : (turnE es i).length = es.length := by simp [turnE]
theorem new_entry {per : Nat} {s : St} {o : OpV} (hE : oE per s o = 0) (hd : o.d = 0 ∨ o.d = 1) : enE (oS per s o) (oN per s o) = 0 ∧ s.opn ≤ enN (oS per s o) (oN per s o) := by
  have key : ∀ (es : List Ent) (x : Int) (ps : List Post) (t : Bool), es.length = s.es.length → s.opn ≤ x → 0 ≤ x → enE ⟨s.opn, es ++ [⟨x.toNat, ps, t⟩]⟩ (s.es.length : Int) = 0 ∧ s.opn ≤ enN ⟨s.opn, es ++ [⟨x.toNat, ps, t⟩]⟩ (s.es.length : Int) := by
    intro es x ps t hl hx h0
    have hh : hasP (es ++ [(⟨x.toNat, ps, t⟩ : Ent)]).length (s.es.length : Int) := ⟨Int.natCast_nonneg _, by rw [List.length_append, hl]; simp; omega⟩
    refine ⟨by unfold enE; rw [if_pos hh], ?_⟩
    unfold enN
    rw [if_pos hh, Int.toNat_natCast]
    show s.opn ≤ (((es ++ [(⟨x.toNat, ps, t⟩ : Ent)]).getD s.es.length e0).q : Int)
    rw [getD_last es _ _ hl]
    show s.opn ≤ (x.toNat : Int)
    omega
  unfold oE at hE
  unfold oS oN
  by_cases h0 : o.d = 0
  · rw [if_pos h0] at hE
    rw [if_pos h0, if_pos h0]
    unfold pS pN
    rw [if_pos hE, if_pos hE]
    obtain ⟨q, hq, _, _, _, _, hox, _, _⟩ := chk_ok (pE_ok hE)
    exact key s.es o.p o.ps false rfl hox (by omega)
  · have h1 : o.d = 1 := hd.resolve_left h0
    rw [if_neg h0, if_pos h1] at hE
    rw [if_neg h0, if_neg h0, if_pos h1, if_pos h1]
    unfold rS rN
    rw [if_pos hE, if_pos hE]
    obtain ⟨_, _, _, h4⟩ := rE_ok hE
    obtain ⟨q, hq, _, _, _, _, hox, _, _⟩ := chk_ok (pE_ok h4)
    exact key (turnE s.es o.e.toNat) o.p _ true (turnE_len _ _) hox (by omega)
theorem balL_stays {per : Nat} {b : Int} {s s' : St} (h : Stays b s s') {q : Nat} (hq : q < per) (hb : (q : Int) < b) (a c : Int) : balL per s'.es a c q = balL per s.es a c q := by
  rw [balL_sum hq, balL_sum hq]
  exact sumF_same fun i hi => h.2 a c i (by omega)
theorem mov_stays {per : Nat} {b : Int} {s s' : St} (h : Stays b s s') {x : Int} (hb : x < b) (a c : Int) : movR per s'.es a c x = movR per s.es a c x := by
  unfold movR
  by_cases hp : hasP per x
  · rw [if_pos hp, if_pos hp]
    unfold hasP at hp
    exact h.2 a c x.toNat (by omega)
  · rw [if_neg hp, if_neg hp]
theorem bal_stays {per : Nat} {b : Int} {s s' : St} (h : Stays b s s') {x : Int} (hb : x < b) (a c : Int) : balR per s'.es a c x = balR per s.es a c x := by
  by_cases hp : hasP per x
  · obtain ⟨q, rfl⟩ : ∃ q : Nat, x = (q : Int) := ⟨x.toNat, by unfold hasP at hp; omega⟩
    unfold hasP at hp
    rw [balR_in (by omega), balR_in (by omega)]
    exact balL_stays h (by omega) hb a c
  · unfold balR; rw [if_neg hp, if_neg hp]
theorem totS_stays {per : Nat} {b : Int} {s s' : St} (h : Stays b s s') {q : Nat} (hq : q < per) (hb : (q : Int) < b) (a : Int) : totS per s'.es a q = totS per s.es a q := by
  unfold totS
  exact sumF_same fun i _ => balL_stays h hq hb a _
theorem tot_stays {per : Nat} {b : Int} {s s' : St} (h : Stays b s s') {x : Int} (hb : x < b) (a : Int) : totN per s'.es a x = totN per s.es a x ∧ totE per s'.es a x = totE per s.es a x := by
  unfold totN totE
  by_cases ho : totOk per a x
  · have hp := ho.2.2
    unfold hasP at hp
    rw [if_pos ho, if_pos ho, if_pos ho, if_pos ho, totS_stays h (by omega) (by omega)]
    exact ⟨rfl, rfl⟩
  · rw [if_neg ho, if_neg ho, if_neg ho, if_neg ho]; exact ⟨rfl, rfl⟩
theorem pam_neg (a c : Int) (ps : List Post) : (pam a c (negP ps)).sum = - (pam a c ps).sum := by
  induction ps with
  | nil => rfl
  | cons p ps ih =>
    have e : negP (p :: ps) = negp p :: negP ps := rfl
    rw [e, pam_cons, pam_cons, ih]
    by_cases h : p.acc = a ∧ p.ct = c
    · rw [if_pos h, if_pos (show (negp p).acc = a ∧ (negp p).ct = c from h)]
      show 0 - p.amt + _ = _
      omega
    · rw [if_neg h, if_neg (show ¬ ((negp p).acc = a ∧ (negp p).ct = c) from h)]
      omega
theorem bal_snoc {per q : Nat} {es : List Ent} {ps : List Post} {t : Bool} {a c : Int} (hq : q < per) : balL per (es ++ [⟨q, ps, t⟩]) a c (per - 1) = balL per es a c (per - 1) + (pam a c ps).sum := by
  rw [balL_sum (by omega), balL_sum (by omega), Nat.sub_add_cancel (by omega)]
  rw [sumF_change (g := movL es a c) (x := q) hq (fun i hi hne => ?_)]
  · rw [movL_snoc, if_pos rfl]; dsimp only; omega
  · rw [movL_snoc, if_neg (show ¬ q = i from fun e => hne e.symm)]; omega
theorem balL_turn (per : Nat) (es : List Ent) (i : Nat) (a c : Int) {q : Nat} (hq : q < per) : balL per (turnE es i) a c q = balL per es a c q := by
  rw [balL_sum hq, balL_sum hq]
  exact sumF_same fun j _ => movL_turn _ _ _ _ _
theorem rE_twice {per : Nat} {s : St} {N : Nat} {x : Int} (hN : N < s.es.length) (ht : (s.es.getD N e0).turned = true) : rE per s (N : Int) x = 6 := by
  unfold rE
  rw [if_neg (fun h => h ⟨Int.natCast_nonneg _, by omega⟩), Int.toNat_natCast, if_pos ht]
/-- What an entry and its reversal leave. -/
theorem back_facts {per : Nat} {s : St} {x q : Int} {ps : List Post} (hP : LedP per s) (h1 : pE per s x ps = 0) (h2 : rE per (pS per s x ps) (s.es.length : Int) q = 0) :
    pN per s x ps = (s.es.length : Int) ∧ rN per (pS per s x ps) (s.es.length : Int) q = (s.es.length : Int) + 1 ∧
    (∀ y, rE per (rS per (pS per s x ps) (s.es.length : Int) q) (s.es.length : Int) y = 6 ∧ rE per (rS per (pS per s x ps) (s.es.length : Int) q) ((s.es.length : Int) + 1) y = 6) ∧
    ∀ a c, balR per (rS per (pS per s x ps) (s.es.length : Int) q).es a c ((per : Int) - 1) = balR per s.es a c ((per : Int) - 1) := by
  have hper := hP.per1
  obtain ⟨x', rfl, hx', _, _, _, _, _, _⟩ := chk_ok (pE_ok h1)
  have eS : pS per s (x' : Int) ps = ⟨s.opn, s.es ++ [⟨x', ps, false⟩]⟩ := by unfold pS; rw [if_pos h1, Int.toNat_natCast]
  rw [eS] at h2 ⊢
  obtain ⟨_, _, _, h4⟩ := rE_ok h2
  obtain ⟨q', rfl, hq', _, _, _, _, _, _⟩ := chk_ok (pE_ok h4)
  have eg : (s.es ++ [(⟨x', ps, false⟩ : Ent)]).getD s.es.length e0 = ⟨x', ps, false⟩ := getD_last _ _ _ rfl
  have eR : rS per ⟨s.opn, s.es ++ [⟨x', ps, false⟩]⟩ (s.es.length : Int) (q' : Int) = ⟨s.opn, turnE (s.es ++ [⟨x', ps, false⟩]) s.es.length ++ [⟨q', negP ps, true⟩]⟩ := by
    unfold rS
    rw [if_pos h2, Int.toNat_natCast, Int.toNat_natCast]
    show St.mk s.opn (turnE (s.es ++ [⟨x', ps, false⟩]) s.es.length ++ [⟨q', negP ((s.es ++ [(⟨x', ps, false⟩ : Ent)]).getD s.es.length e0).ps, true⟩]) = _
    rw [eg]
  have hlt : (turnE (s.es ++ [(⟨x', ps, false⟩ : Ent)]) s.es.length).length = s.es.length + 1 := by rw [turnE_len]; simp
  refine ⟨by unfold pN; rw [if_pos h1], by unfold rN; rw [if_pos h2]; simp, fun y => ?_, fun a c => ?_⟩
  · rw [eR]
    refine ⟨rE_twice (N := s.es.length) (by show s.es.length < (turnE (s.es ++ [(⟨x', ps, false⟩ : Ent)]) s.es.length ++ [(⟨q', negP ps, true⟩ : Ent)]).length; rw [List.length_append, hlt]; simp; omega) ?_, ?_⟩
    · show ((turnE (s.es ++ [(⟨x', ps, false⟩ : Ent)]) s.es.length ++ [(⟨q', negP ps, true⟩ : Ent)]).getD s.es.length e0).turned = true
      rw [List.getD_eq_getElem?_getD, List.getElem?_append_left (by rw [hlt]; omega)]
      unfold turnE
      rw [List.getElem?_set_self (by simp)]
      rfl
    · have := rE_twice (per := per) (s := ⟨s.opn, turnE (s.es ++ [⟨x', ps, false⟩]) s.es.length ++ [⟨q', negP ps, true⟩]⟩) (N := s.es.length + 1) (x := y) (by show s.es.length + 1 < (turnE (s.es ++ [(⟨x', ps, false⟩ : Ent)]) s.es.length ++ [(⟨q', negP ps, true⟩ : Ent)]).length; rw [List.length_append, hlt]; simp) (by
        show ((turnE (s.es ++ [(⟨x', ps, false⟩ : Ent)]) s.es.length ++ [(⟨q', negP ps, true⟩ : Ent)]).getD (s.es.length + 1) e0).turned = true
        rw [getD_last _ _ _ hlt])
      have e : (((s.es.length + 1 : Nat)) : Int) = (s.es.length : Int) + 1 := by omega
      rw [e] at this
      exact this
  · rw [eR]
    have e : (per : Int) - 1 = ((per - 1 : Nat) : Int) := by omega
    rw [e, balR_in (by omega), balR_in (by omega)]
    show balL per (turnE (s.es ++ [⟨x', ps, false⟩]) s.es.length ++ [⟨q', negP ps, true⟩]) a c (per - 1) = _
    rw [bal_snoc hq', balL_turn _ _ _ _ _ (by omega), bal_snoc hx', pam_neg]
    omega
end Go.Proofs.Ytmijcgcppankcaa.AC
