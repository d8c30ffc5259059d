/- The ledger as plain data; what each call makes of it. -/
import Derived.Test.YtmijcgcppankcaaAcctI
import Derived.OwnWalk
namespace Go.Proofs.Ytmijcgcppankcaa.AC
open Go.RowKit Go.Proofs.Ytmijcgcppankcaa.Cents Go.Proofs.Ytmijcgcppankcaa.MV Go.Proofs.Ytmijcgcppankcaa.Net Go.Proofs.Ytmijcgcppankcaa.CO
open Go.Maps (Keyed)
set_option linter.unusedVariables false
set_option linter.unusedSimpArgs false

structure St where
  opn : Int
  es : List Ent
def e0 : Ent := ⟨0, [], false⟩
open Classical in
noncomputable def pE (per : Nat) (s : St) (x : Int) (ps : List Post) : Int :=
  if chkE per s.opn s.es.length x ps = 0 then (if fitAll per s.es x.toNat ps then 0 else 3) else chkE per s.opn s.es.length x ps
noncomputable def pN (per : Nat) (s : St) (x : Int) (ps : List Post) : Int := if pE per s x ps = 0 then (s.es.length : Int) else 0
noncomputable def pS (per : Nat) (s : St) (x : Int) (ps : List Post) : St := if pE per s x ps = 0 then ⟨s.opn, s.es ++ [⟨x.toNat, ps, false⟩]⟩ else s
def turnE (es : List Ent) (i : Nat) : List Ent := es.set i { es.getD i e0 with turned := true }
open Classical in
noncomputable def rE (per : Nat) (s : St) (at_ x : Int) : Int :=
  if ¬ hasP s.es.length at_ then 5 else if (s.es.getD at_.toNat e0).turned = true then 6 else if ∃ p ∈ (s.es.getD at_.toNat e0).ps, ¬ I64 (0 - p.amt) then 3 else pE per s x (negP (s.es.getD at_.toNat e0).ps)
noncomputable def rN (per : Nat) (s : St) (at_ x : Int) : Int := if rE per s at_ x = 0 then (s.es.length : Int) else 0
noncomputable def rS (per : Nat) (s : St) (at_ x : Int) : St := if rE per s at_ x = 0 then ⟨s.opn, turnE s.es at_.toNat ++ [⟨x.toNat, negP (s.es.getD at_.toNat e0).ps, true⟩]⟩ else s
def cS (per : Nat) (s : St) (x : Int) : St := if closeE per s.opn x = 0 then ⟨s.opn + 1, s.es⟩ else s
structure LedP (per : Nat) (s : St) : Prop where
  per1 : 1 ≤ per
  per2 : per ≤ 240
  o0 : 0 ≤ s.opn
  o1 : s.opn ≤ (per : Int)
  len : s.es.length ≤ 5000
  ok : ∀ e ∈ s.es, e.q < per ∧ 1 ≤ e.ps.length ∧ e.ps.length ≤ 32 ∧ evenP e.ps ∧ ∀ p ∈ e.ps, Post.I p ∧ mayP p.acc p.ct
  fit : ∀ a c, I64 a → I64 c → ∀ q, q < per → I64 (movL s.es a c q) ∧ I64 ((rowL s.es per a c).take (q + 1)).sum
theorem LedP.toG {per : Nat} {s : St} {xs : List EV} (h : LedP per s) (he : ents xs = s.es) : LedG per s.opn xs := by
  have hl : xs.length = s.es.length := by rw [← he]; simp [ents]
  refine ⟨h.per1, h.per2, h.o0, h.o1, by rw [hl]; exact h.len, fun x hx => ?_, by rw [he]; exact h.fit⟩
  have := h.ok x.e (by rw [← he]; exact List.mem_map_of_mem hx)
  exact ⟨this.1, this.2.1, this.2.2.1, this.2.2.2.2⟩
theorem LedP.ofG {per : Nat} {opn : Int} {xs : List EV} (h : LedG per opn xs) (hev : ∀ x ∈ xs, evenP x.e.ps) : LedP per ⟨opn, ents xs⟩ := by
  refine ⟨h.per1, h.per2, h.o0, h.o1, by simpa [ents] using h.len, fun e he => ?_, h.fit⟩
  obtain ⟨x, hx, rfl⟩ := List.mem_map.1 he
  have := h.ok x hx
  exact ⟨this.1, this.2.1, this.2.2.1, hev x hx, this.2.2.2⟩
def lift (es : List Ent) : List EV := es.map fun e => ⟨e, .slice none 0 0⟩
theorem ents_lift (es : List Ent) : ents (lift es) = es := by simp [ents, lift, Function.comp_def]
theorem ents_len (xs : List EV) : (ents xs).length = xs.length := by simp [ents]
theorem postE_pE (per : Nat) (opn : Int) (xs : List EV) (s : St) (x : Int) (ps : List Post) (ho : opn = s.opn) (he : ents xs = s.es) : postE per opn xs x ps = pE per s x ps := by
  unfold postE pE
  rw [← he, ents_len, ho]
theorem getD_ents (xs : List EV) (i : Nat) : (ents xs).getD i e0 = (xs.getD i ev0).e := by
  unfold ents
  rw [List.getD_eq_getElem?_getD, List.getD_eq_getElem?_getD, List.getElem?_map]
  cases xs[i]? <;> rfl
theorem revE_rE (per : Nat) (opn : Int) (xs : List EV) (s : St) (at_ x : Int) (ho : opn = s.opn) (he : ents xs = s.es) : revE per opn xs at_ x = rE per s at_ x := by
  unfold revE rE
  rw [← he, ents_len, getD_ents, postE_pE per opn xs s x _ ho he]
theorem turn_ents (xs : List EV) (i : Nat) : ents (turn xs i) = turnE (ents xs) i := by
  unfold turn turnE
  rw [getD_ents]
  unfold ents
  rw [List.map_set]
/-- Of the state alone. -/
theorem ledp_post {per : Nat} {s : St} {x : Int} {ps : List Post} (h : LedP per s) (hI : ∀ p ∈ ps, Post.I p) : LedP per (pS per s x ps) := by
  unfold pS
  by_cases hE : pE per s x ps = 0
  · rw [if_pos hE]
    have hE' : postE per s.opn (lift s.es) x ps = 0 := by rw [postE_pE per s.opn (lift s.es) s x ps rfl (ents_lift _)]; exact hE
    have hg := ledg_post (v := .slice none 0 0) (h.toG (ents_lift _)) hI hE'
    have hc : chkE per s.opn (lift s.es).length x ps = 0 := by
      unfold postE at hE'
      by_cases hc : chkE per s.opn (lift s.es).length x ps = 0
      · exact hc
      · rw [if_neg hc] at hE'; exact hE'
    obtain ⟨_, _, _, _, _, _, _, hev, _⟩ := chk_ok hc
    have := LedP.ofG hg (fun y hy => by
      rcases List.mem_append.1 hy with hy | hy
      · unfold lift at hy
        obtain ⟨e, he, rfl⟩ := List.mem_map.1 hy
        exact (h.ok e he).2.2.2.1
      · rw [List.mem_singleton.1 hy]; exact hev)
    have e1 : ents (lift s.es ++ [(⟨⟨x.toNat, ps, false⟩, .slice none 0 0⟩ : EV)]) = s.es ++ [⟨x.toNat, ps, false⟩] := by
      unfold ents lift; simp [Function.comp_def]
    rw [e1] at this
    exact this
  · rw [if_neg hE]; exact h
theorem turnE_mem {es : List Ent} {i : Nat} {e : Ent} (h : e ∈ turnE es i) (hi : i < es.length) : ∃ y ∈ es, e.ps = y.ps ∧ e.q = y.q := by
  unfold turnE at h
  rcases List.mem_or_eq_of_mem_set h with h | h
  · exact ⟨e, h, rfl, rfl⟩
  · refine ⟨es[i], List.getElem_mem hi, ?_⟩
    rw [h]
    simp [List.getD_eq_getElem?_getD, hi]
theorem ledp_rev {per : Nat} {s : St} {at_ x : Int} (h : LedP per s) : LedP per (rS per s at_ x) := by
  unfold rS
  by_cases hE : rE per s at_ x = 0
  · rw [if_pos hE]
    unfold rE at hE
    by_cases h1 : ¬ hasP s.es.length at_
    · rw [if_pos h1] at hE; omega
    · rw [if_neg h1] at hE
      by_cases h2 : (s.es.getD at_.toNat e0).turned = true
      · rw [if_pos h2] at hE; omega
      · rw [if_neg h2] at hE
        by_cases h3 : ∃ p ∈ (s.es.getD at_.toNat e0).ps, ¬ I64 (0 - p.amt)
        · rw [if_pos h3] at hE; omega
        · rw [if_neg h3] at hE
          have hi : at_.toNat < s.es.length := by unfold hasP at h1; omega
          have hem : s.es.getD at_.toNat e0 ∈ s.es := by
            rw [List.getD_eq_getElem?_getD, List.getElem?_eq_getElem hi]; exact List.getElem_mem hi
          have hok := h.ok _ hem
          generalize s.es.getD at_.toNat e0 = y at *
          have hI : ∀ p ∈ negP y.ps, Post.I p := fun p hp => by
            unfold negP at hp
            obtain ⟨p0, hp0, rfl⟩ := List.mem_map.1 hp
            have := hok.2.2.2.2 p0 hp0
            exact ⟨this.1.1, this.1.2.1, Classical.byContradiction fun c => h3 ⟨p0, hp0, c⟩⟩
          have hp := ledp_post (x := x) h hI
          unfold pS at hp
          rw [if_pos hE] at hp
          have hg := hp.toG (xs := lift (s.es ++ [⟨x.toNat, negP y.ps, false⟩])) (ents_lift _)
          have hll : (lift (s.es ++ [(⟨x.toNat, negP y.ps, false⟩ : Ent)])) = lift s.es ++ [⟨⟨x.toNat, negP y.ps, false⟩, .slice none 0 0⟩] := by unfold lift; simp
          have hlen : (lift s.es).length = s.es.length := by simp [lift]
          rw [hll] at hg
          have hg2 := ledg_turn (ledg_turn hg (i := at_.toNat) (by simp [hlen]; omega)) (i := s.es.length) (by rw [turn_len]; simp [hlen])
          have htt := turn_two (lift s.es) ⟨⟨x.toNat, negP y.ps, false⟩, .slice none 0 0⟩ at_.toNat (by rw [hlen]; exact hi)
          rw [hlen] at htt
          rw [htt] at hg2
          have := LedP.ofG hg2 (fun z hz => by
            rcases List.mem_append.1 hz with hz | hz
            · obtain ⟨y2, hy2, _, h5, _⟩ := turn_mem hz (by rw [hlen]; exact hi)
              rw [h5]
              unfold lift at hy2
              obtain ⟨e, he, rfl⟩ := List.mem_map.1 hy2
              exact (h.ok e he).2.2.2.1
            · rw [List.mem_singleton.1 hz]
              have := hp.ok ⟨x.toNat, negP y.ps, false⟩ (by simp)
              exact this.2.2.2.1)
          have e1 : ents (turn (lift s.es) at_.toNat ++ [(⟨⟨x.toNat, negP y.ps, true⟩, .slice none 0 0⟩ : EV)]) = turnE s.es at_.toNat ++ [⟨x.toNat, negP y.ps, true⟩] := by
            rw [show ents (turn (lift s.es) at_.toNat ++ [(⟨⟨x.toNat, negP y.ps, true⟩, .slice none 0 0⟩ : EV)]) = ents (turn (lift s.es) at_.toNat) ++ [⟨x.toNat, negP y.ps, true⟩] by unfold ents; simp, turn_ents, ents_lift]
          rw [e1] at this
          exact this
  · rw [if_neg hE]; exact h
theorem ledp_close {per : Nat} {s : St} {x : Int} (h : LedP per s) : LedP per (cS per s x) := by
  unfold cS
  by_cases hE : closeE per s.opn x = 0
  · rw [if_pos hE]
    have hg := ledg_close (h.toG (ents_lift _)) hE
    have := LedP.ofG hg (fun y hy => by
      unfold lift at hy
      obtain ⟨e, he, rfl⟩ := List.mem_map.1 hy
      exact (h.ok e he).2.2.2.1)
    rw [ents_lift] at this
    exact this
  · rw [if_neg hE]; exact h
theorem total_any {b0 L per M ce : Nat} {opn : Int} {xs : List EV} {E : Option Addr} {f : KF} {w : World} (hL : LedW b0 L per opn xs E ce M f w) (hG : LedG per opn xs) (a x u v : Int) (hS : totN per (ents xs) a x = u ∧ totE per (ents xs) a x = v) :
    Calls Try.prog 17 #[.pointer (some ⟨L, 0, none⟩), .int .i64 a, .int .i64 x] w fun e w' => e = .returned (.tuple #[.int .i64 u, .int .i64 v]) ∧ Below w.heap.size w w' := by
  unfold totN totE at hS
  by_cases h : totOk per a x
  · obtain ⟨q, rfl⟩ : ∃ q : Nat, x = (q : Int) := ⟨x.toNat, by have := h.2.2; unfold hasP at this; omega⟩
    have hq := h.2.2
    unfold hasP at hq
    rw [if_pos h, if_pos h, Int.toNat_natCast] at hS
    exact total_go hL hG a q h.1 h.2.1 (by omega) u v hS
  · rw [if_neg h, if_neg h] at hS
    obtain ⟨rfl, rfl⟩ := hS
    exact (total_no hL a x h).mono (by rintro e w' ⟨rfl, rfl⟩; exact ⟨rfl, Below.refl _ _⟩)
/-- What stays: all below b0, and what is neither a ledger nor entries. -/
structure Kp (b0 : Nat) (w w' : World) : Prop where
  os : w'.os = w.os
  tape : w'.tape = w.tape
  output : w'.output = w.output
  size : w.heap.size ≤ w'.heap.size
  low : ∀ i, i < b0 → w'.heap[i]? = w.heap[i]?
  cel : ∀ g cs t, Blk w g t cs → t ≠ 63 → t ≠ 77 → w'.heap[g]? = w.heap[g]?
section
variable {b0 : Nat} {w w1 w2 w' : World}
theorem Kp.refl (b0 : Nat) (w : World) : Kp b0 w w := ⟨rfl, rfl, rfl, Nat.le_refl _, fun _ _ => rfl, fun _ _ _ _ _ _ => rfl⟩
theorem Kp.trans (h : Kp b0 w w1) (k : Kp b0 w1 w2) : Kp b0 w w2 :=
  ⟨k.os.trans h.os, k.tape.trans h.tape, k.output.trans h.output, Nat.le_trans h.size k.size, fun i hi => (k.low i hi).trans (h.low i hi), fun g cs t hg h1 h2 => (k.cel g cs t ((h.cel g cs t hg h1 h2).trans hg) h1 h2).trans (h.cel g cs t hg h1 h2)⟩
theorem Kp.of (hb : b0 ≤ w.heap.size) (h : Below w.heap.size w w') : Kp b0 w w' :=
  ⟨h.os, h.tape, h.output, h.size, fun i hi => h.block i (by omega), fun g cs t hg _ _ => h.block g hg.lt⟩
theorem Kp.blk {g t : Nat} {cs : Array Value} (h : Kp b0 w w') (hb : Blk w g t cs) (h1 : t ≠ 63) (h2 : t ≠ 77) : Blk w' g t cs := (h.cel g cs t hb h1 h2).trans hb
theorem Kp.own {base e size n : Nat} {v : Value} {xs : List Value} (h : Kp b0 w w') (ho : w.ownsRow base e size v n xs) (h1 : e ≠ 63) (h2 : e ≠ 77) : w'.ownsRow base e size v n xs := by
  refine ⟨ho.1, ho.2.imp id fun ⟨g, cap, cur, e1, hb, hgg, rest⟩ => ⟨g, cap, cur, e1, hb, ?_, rest⟩⟩
  exact (h.cel g cur e hgg h1 h2).trans hgg
theorem Kp.below {B : Nat} {W : World} (h : Kp b0 w w') (hB : Below B W w) (hb : B ≤ b0) : Below B W w' :=
  ⟨h.os.trans hB.os, h.tape.trans hB.tape, h.output.trans hB.output, Nat.le_trans hB.size h.size, fun i hi => (h.low i (by omega)).trans (hB.block i hi)⟩
theorem Kp.fr {L per M ce : Nat} {opn : Int} {xs : List EV} {E : Option Addr} {f : KF} (hb : b0 ≤ w.heap.size) (hL : LedW b0 L per opn xs E ce M f w) (hF : Fr (LS L M E xs.length ce) w w') : Kp b0 w w' := by
  refine ⟨hF.os, hF.tape, hF.output, hF.size, fun i hi => hF.block i (by omega) (fun hs => ?_), fun g cs t hg h1 h2 => hF.block g hg.lt (fun hs => ?_)⟩
  · rcases hs with hs | hs | hs
    · have := hL.hL; omega
    · have := hL.hM; omega
    · have := (hL.own.lt i hs).1; omega
  · rcases hs with hs | hs | hs
    · exact blk_ne hg hL.led h1 hs
    · exact hL.map.not_cells hg hs
    · exact own_blkne hL.own hg h2 hs.symm
end
section
open Go.RowKit Go.Proofs.Ytmijcgcppankcaa.Cents Go.Proofs.Ytmijcgcppankcaa.MV Go.Proofs.Ytmijcgcppankcaa.Net Go.Proofs.Ytmijcgcppankcaa.CO
open Go.Maps (Keyed)
set_option linter.unusedVariables false
set_option linter.unusedSimpArgs false

def Led (b0 L per : Nat) (s : St) (w : World) : Prop := b0 ≤ w.heap.size ∧ ∃ xs E c M f, LedW b0 L per s.opn xs E c M f w ∧ ents xs = s.es
abbrev lv (L : Nat) : Value := .pointer (some ⟨L, 0, none⟩)
section
variable {b0 L per : Nat} {s : St} {w w' : World}
theorem Led.size (h : Led b0 L per s w) : b0 ≤ w.heap.size := h.1
theorem Led.later (h : Led b0 L per s w) (hb : Below w.heap.size w w') : Led b0 L per s w' := by
  obtain ⟨h1, xs, E, c, M, f, hL, he⟩ := h
  exact ⟨Nat.le_trans h1 hb.size, xs, E, c, M, f, hL.later hb, he⟩
def PLed (b0 L per : Nat) (s : St) (x : Int) (ps : List Post) (w : World) (e : Ending) (w' : World) : Prop :=
  e = .returned (.tuple #[.int .i64 (pN per s x ps), .int .i64 (pE per s x ps)]) ∧ Led b0 L per (pS per s x ps) w' ∧ Kp b0 w w'
theorem post_led (hL : Led b0 L per s w) (hG : LedP per s) (x : Int) (A : Option Addr) (ps : List Post) (c : Nat) (hr : Row w 0 A (cells ps)) (hl : ps.length ≤ 1000) (hI : ∀ p ∈ ps, Post.I p) :
    Calls Try.prog 26 #[lv L, .int .i64 x, .slice A ps.length c] w (PLed b0 L per s x ps w) := by
  obtain ⟨h1, xs, E, ce, M, f, hW, he⟩ := hL
  refine (post_any b0 L per M ce s.opn x xs E A f ps c w hW (hG.toG he) hr hl hI h1).mono ?_
  have hpe := postE_pE per s.opn xs s x ps rfl he
  have hxl : xs.length = s.es.length := by rw [← he, ents_len]
  rintro e w' (⟨hne, rfl, hb⟩ | ⟨h0, rfl, v, E', c', f', hL', hF, hE'⟩)
  · rw [hpe] at hne
    unfold PLed pN pS
    rw [hpe, if_neg hne, if_neg hne]
    exact ⟨rfl, ⟨Nat.le_trans h1 hb.size, xs, E, ce, M, f, hW.later hb, he⟩, Kp.of h1 hb⟩
  · rw [hpe] at h0
    unfold PLed pN pS
    rw [h0, if_pos rfl, if_pos rfl, hxl]
    refine ⟨rfl, ⟨Nat.le_trans h1 hF.size, _, E', c', M, f', hL', ?_⟩, Kp.fr h1 hW hF⟩
    rw [← he]; simp [ents]
def RLed (b0 L per : Nat) (s : St) (at_ x : Int) (w : World) (e : Ending) (w' : World) : Prop :=
  e = .returned (.tuple #[.int .i64 (rN per s at_ x), .int .i64 (rE per s at_ x)]) ∧ Led b0 L per (rS per s at_ x) w' ∧ Kp b0 w w'
theorem rev_led (hL : Led b0 L per s w) (hG : LedP per s) (at_ x : Int) :
    Calls Try.prog 27 #[lv L, .int .i64 at_, .int .i64 x] w (RLed b0 L per s at_ x w) := by
  obtain ⟨h1, xs, E, ce, M, f, hW, he⟩ := hL
  refine (reverse_any hW (hG.toG he) at_ x h1).mono ?_
  have hpe := revE_rE per s.opn xs s at_ x rfl he
  have hxl : xs.length = s.es.length := by rw [← he, ents_len]
  rintro e w' (⟨hne, rfl, hb⟩ | ⟨h0, rfl, v, E', c', f', hL', hF, hE'⟩)
  · rw [hpe] at hne
    unfold RLed rN rS
    rw [hpe, if_neg hne, if_neg hne]
    exact ⟨rfl, ⟨Nat.le_trans h1 hb.size, xs, E, ce, M, f, hW.later hb, he⟩, Kp.of h1 hb⟩
  · rw [hpe] at h0
    unfold RLed rN rS
    rw [h0, if_pos rfl, if_pos rfl, hxl]
    refine ⟨rfl, ⟨Nat.le_trans h1 hF.size, _, E', c', M, f', hL', ?_⟩, Kp.fr h1 hW hF⟩
    rw [← he, getD_ents, ← turn_ents]; simp [ents]
def CLed (b0 L per : Nat) (s : St) (x : Int) (w : World) (e : Ending) (w' : World) : Prop :=
  e = .returned (.int .i64 (closeE per s.opn x)) ∧ Led b0 L per (cS per s x) w' ∧ Kp b0 w w'
theorem close_led (hL : Led b0 L per s w) (hG : LedP per s) (x : Int) :
    Calls Try.prog 28 #[lv L, .int .i64 x] w (CLed b0 L per s x w) := by
  obtain ⟨h1, xs, E, ce, M, f, hW, he⟩ := hL
  refine (close_is hW (hG.toG he) x).mono ?_
  rintro e w' ⟨rfl, (⟨hne, rfl⟩ | ⟨h0, hL', hF⟩)⟩
  · unfold CLed cS
    rw [if_neg hne]
    exact ⟨rfl, ⟨h1, xs, E, ce, M, f, hW, he⟩, Kp.refl _ _⟩
  · unfold CLed cS
    rw [if_pos h0]
    exact ⟨rfl, ⟨Nat.le_trans h1 hF.size, xs, E, ce, M, f, hL', he⟩, Kp.fr h1 hW (hF.weak (fun k _ hk => .inl hk))⟩
theorem moved_led (hL : Led b0 L per s w) (hG : LedP per s) (a k x : Int) (ha : I64 a) (hk : I64 k) (hx : I64 x) (v : Int) (hv : movR per s.es a k x = v) :
    Calls Try.prog 19 #[lv L, .int .i64 a, .int .i64 k, .int .i64 x] w fun e w' => e = .returned (.int .i64 v) ∧ w = w' := by
  obtain ⟨h1, xs, E, ce, M, f, hW, he⟩ := hL
  exact moved_is hW (hG.toG he) a k x ha hk hx v (by rw [he]; exact hv)
theorem balance_led (hL : Led b0 L per s w) (hG : LedP per s) (a k x : Int) (ha : I64 a) (hk : I64 k) (hx : I64 x) (v : Int) (hv : balR per s.es a k x = v) :
    Calls Try.prog 21 #[lv L, .int .i64 a, .int .i64 k, .int .i64 x] w fun e w' => e = .returned (.int .i64 v) ∧ Below w.heap.size w w' := by
  obtain ⟨h1, xs, E, ce, M, f, hW, he⟩ := hL
  exact balance_is hW (hG.toG he) a k x ha hk hx v (by rw [he]; exact hv)
theorem total_led (hL : Led b0 L per s w) (hG : LedP per s) (a x u v : Int) (hS : totN per s.es a x = u ∧ totE per s.es a x = v) :
    Calls Try.prog 17 #[lv L, .int .i64 a, .int .i64 x] w fun e w' => e = .returned (.tuple #[.int .i64 u, .int .i64 v]) ∧ Below w.heap.size w w' := by
  obtain ⟨h1, xs, E, ce, M, f, hW, he⟩ := hL
  exact total_any hW (hG.toG he) a x u v (by rw [he]; exact hS)
theorem open_led (hL : Led b0 L per s w) : Calls Try.prog 15 #[lv L] w fun e w' => e = .returned (.int .i64 s.opn) ∧ w = w' := by
  obtain ⟨h1, xs, E, ce, M, f, hW, he⟩ := hL
  exact open_is L s.opn w (hW.led.cell 1)
theorem many_led (hL : Led b0 L per s w) : Calls Try.prog 16 #[lv L] w fun e w' => e = .returned (.int .i64 (s.es.length : Int)) ∧ w = w' := by
  obtain ⟨h1, xs, E, ce, M, f, hW, he⟩ := hL
  have := many_is L xs.length ce E w (hW.led.cell 2)
  rw [← he, ents_len]
  exact this
/-- What is told of an entry. -/
def enN (s : St) (i : Int) : Int := if hasP s.es.length i then ((s.es.getD i.toNat e0).q : Int) else 0
def enE (s : St) (i : Int) : Int := if hasP s.es.length i then 0 else 5
def enP (s : St) (i : Int) : List Post := if hasP s.es.length i then (s.es.getD i.toNat e0).ps else []
def EnRet (s : St) (i : Int) (w : World) (e : Ending) (w' : World) : Prop :=
  ∃ B cap, e = .returned (.tuple #[.int .i64 (enN s i), .slice B (enP s i).length cap, .int .i64 (enE s i)]) ∧ Row w' 0 B (cells (enP s i)) ∧ Below w.heap.size w w'
set_option maxHeartbeats 4000000 in
set_option maxRecDepth 100000 in
theorem entry_led (hL : Led b0 L per s w) (hG : LedP per s) (i : Int) :
    Calls Try.prog 23 #[lv L, .int .i64 i] w (EnRet s i w) := by
  obtain ⟨h1, xs, E, ce, M, f, hW, he⟩ := hL
  have hxl : xs.length = s.es.length := by rw [← he, ents_len]
  have c2 : w.cell? ⟨L, 2, none⟩ = some (.slice E xs.length ce) := hW.led.cell 2
  by_cases hh : hasP s.es.length i
  · have HN := Lib.hid (show enN s i = ((s.es.getD i.toNat e0).q : Int) by unfold enN; rw [if_pos hh])
    have HE := Lib.hid (show enE s i = 0 by unfold enE; rw [if_pos hh])
    have HP := Lib.hid (show enP s i = (s.es.getD i.toNat e0).ps by unfold enP; rw [if_pos hh])
    have HK := Lib.hid (known_is L xs.length ce E i w c2 true (by rw [hxl]; simpa using hh))
    obtain ⟨j, rfl⟩ : ∃ j : Nat, i = (j : Int) := ⟨i.toNat, by unfold hasP at hh; omega⟩
    have hj : j < xs.length := by unfold hasP at hh; omega
    obtain ⟨g, rfl, a0, a1, _, _⟩ := hW.entry hj
    have hym : xs.getD j ev0 ∈ xs := by rw [List.getD_eq_getElem?_getD, List.getElem?_eq_getElem hj]; exact List.getElem_mem hj
    have hyd : s.es.getD j e0 = (xs.getD j ev0).e := by rw [← he, getD_ents]
    obtain ⟨y, hy⟩ : ∃ y, xs.getD j ev0 = y := ⟨_, rfl⟩
    rw [hy] at a0 a1 hym hyd
    rw [Int.toNat_natCast, hyd] at HN HP
    have hok := (hG.toG he).ok y hym
    have hown := hW.pst y hym
    obtain ⟨P, cp, hv, hcp⟩ := own_slice hown
    rw [hv] at a1 hown
    have hrow := (Row.of_own hown (by decide)).weak (Nat.zero_le _)
    have HCL := Lib.hid (fun w1 (hr : Row w1 0 P (cells y.e.ps)) => pclone_any P y.e.ps cp w1 hok.2.1 hr (by have := hok.2.2.1; omega))
    have HROW := Lib.hid hrow
    obtain ⟨n, hn⟩ : ∃ n, xs.length = n := ⟨_, rfl⟩
    rw [hn] at c2 hj
    obtain ⟨m, hm⟩ : ∃ m, y.e.ps.length = m := ⟨_, rfl⟩
    have HM := Lib.hid hm
    rw [hm] at a1
    have g0 : (0 : Int) ≤ (j : Int) := Int.natCast_nonneg _
    have g1 : (j : Int) < (n : Int) := by omega
    have hHL : L < w.heap.size := hW.led.lt
    clear hW hG he hxl hh hym hyd hy hok hown hv hcp hrow hn hm
    go_enter Try.func23, Try.ntmps23
    go_wp2_with fail
    refine HK.out.mono ?_
    rintro e w1 ⟨rfl, rfl⟩
    go_wp2_with fail
    have HLT := Lib.hid (Below.drew (Below.refl w.heap.size w))
    go_region_held3 (fun W => W.cell? ⟨L, 2, none⟩ = some (.slice (some ⟨g, 0, none⟩) n ce) ∧ W.cell? ⟨g, j * 3, none⟩ = some (.int .i64 (y.e.q : Int)) ∧ W.cell? ⟨g, j * 3 + 1, none⟩ = some (.slice P m cp))
      (first | (go_split_ands; exact ⟨b1, b2, b3⟩) | (go_keep; done))
      ((go_at_call 37; rw [← HM.out]; refine (HCL.out _ (HROW.out.below HLT.out)).mono ?_; rintro e w5 ⟨g5, cap5, rfl, hown5, hb5⟩; have HO5 := Lib.hid ((Row.of_own hown5 (by decide)).weak (Nat.zero_le _)); have HL5 := Lib.hid (HLT.out.trans (hb5.mono HLT.out.size)); clear hown5 hb5; have b1 := cell_below' HL5.out c2; have b2 := cell_below' HL5.out a0; have b3 := cell_below' HL5.out a1; rw [HM.out]))
    all_goals
      go_wp2_with fail
      go_ret3
      refine ⟨some ⟨g5, 0, none⟩, cap5, ?_, by rw [HP.out]; exact HO5.out, HL5.out⟩
      rw [HN.out, HE.out, HP.out, HM.out]
      rfl
  · have HN := Lib.hid (show enN s i = 0 by unfold enN; rw [if_neg hh])
    have HE := Lib.hid (show enE s i = 5 by unfold enE; rw [if_neg hh])
    have HP := Lib.hid (show enP s i = [] by unfold enP; rw [if_neg hh])
    have HK := Lib.hid (known_is L xs.length ce E i w c2 false (by rw [hxl]; simpa using hh))
    clear hW hG he hxl hh c2
    go_enter Try.func23, Try.ntmps23
    go_wp2_with fail
    refine HK.out.mono ?_
    rintro e w1 ⟨rfl, rfl⟩
    go_wp2_with fail
    go_ret3
    refine ⟨none, 0, ?_, by rw [HP.out]; exact Row.none_, Below.refl _ _⟩
    rw [HN.out, HE.out, HP.out]
    rfl
end
end
section
open Go.RowKit Go.Proofs.Ytmijcgcppankcaa.Cents Go.Proofs.Ytmijcgcppankcaa.MV Go.Proofs.Ytmijcgcppankcaa.Net Go.Proofs.Ytmijcgcppankcaa.CO
open Go.Maps (Keyed)
set_option linter.unusedVariables false
set_option linter.unusedSimpArgs false

structure OpV where
  d : Int
  p : Int
  e : Int
  A : Option Addr
  c : Nat
  ps : List Post
def OpV.cell (o : OpV) : List Value := [.int .i64 o.d, .int .i64 o.p, .int .i64 o.e, .slice o.A o.ps.length o.c]
theorem op_len (o : OpV) : (OpV.cell o).length = 4 := rfl
def OpV.val (o : OpV) : Value := .agg #[.int .i64 o.d, .int .i64 o.p, .int .i64 o.e, .slice o.A o.ps.length o.c]
structure OpV.Q (W : World) (o : OpV) : Prop where
  d : I64 o.d
  p : I64 o.p
  e : I64 o.e
  r : Row W 0 o.A (cells o.ps)
  i : ∀ p ∈ o.ps, Post.I p
  l : o.ps.length ≤ maxLen
theorem OpV.Q.below {W w w' : World} {o : OpV} (h : o.Q w) (hb : Below w.heap.size w w') : o.Q w' := ⟨h.d, h.p, h.e, h.r.below hb, h.i, h.l⟩
noncomputable def oE (per : Nat) (s : St) (o : OpV) : Int := if o.d = 0 then pE per s o.p o.ps else if o.d = 1 then rE per s o.e o.p else closeE per s.opn o.p
noncomputable def oN (per : Nat) (s : St) (o : OpV) : Int := if o.d = 0 then pN per s o.p o.ps else if o.d = 1 then rN per s o.e o.p else 0
noncomputable def oS (per : Nat) (s : St) (o : OpV) : St := if o.d = 0 then pS per s o.p o.ps else if o.d = 1 then rS per s o.e o.p else cS per s o.p
theorem ledp_op {per : Nat} {s : St} {o : OpV} (h : LedP per s) (hI : ∀ p ∈ o.ps, Post.I p) : LedP per (oS per s o) := by
  unfold oS
  split
  · exact ledp_post h hI
  · split
    · exact ledp_rev h
    · exact ledp_close h
section
variable {b0 L per : Nat} {s : St} {w w' : World}
def OLed (b0 L per : Nat) (s : St) (o : OpV) (w : World) (e : Ending) (w' : World) : Prop :=
  e = .returned (.tuple #[.int .i64 (oN per s o), .int .i64 (oE per s o)]) ∧ Led b0 L per (oS per s o) w' ∧ Kp b0 w w'
theorem do_led (hL : Led b0 L per s w) (hG : LedP per s) (o : OpV) (hQ : o.Q w) (hl : o.ps.length ≤ 1000) :
    Calls Try.prog 11 #[lv L, o.val] w (OLed b0 L per s o w) := by
  have HL := Lib.hid hL
  have HG := Lib.hid hG
  have HQ := Lib.hid hQ
  have HK := Lib.hid (fun ob => Kp.of (b0 := b0) hL.size (alloc1 w ob))
  have HLA := Lib.hid (fun ob => hL.later (alloc1 w ob))
  have HRA := Lib.hid (fun ob => hQ.r.below (alloc1 w ob))
  obtain ⟨d, p, e, A, c, ps⟩ := o
  unfold OpV.val
  dsimp only at hl HRA ⊢
  clear hL hQ hG
  by_cases h0 : d = 0
  · subst h0
    have HN := Lib.hid (show oN per s ⟨0, p, e, A, c, ps⟩ = pN per s p ps by unfold oN; rw [if_pos rfl])
    have HE := Lib.hid (show oE per s ⟨0, p, e, A, c, ps⟩ = pE per s p ps by unfold oE; rw [if_pos rfl])
    have HS := Lib.hid (show oS per s ⟨0, p, e, A, c, ps⟩ = pS per s p ps by unfold oS; rw [if_pos rfl])
    have HP := Lib.hid (fun ob => post_led (HLA.out ob) HG.out p A ps c (HRA.out ob) hl HQ.out.i)
    obtain ⟨n, hn⟩ : ∃ n, ps.length = n := ⟨_, rfl⟩
    rw [hn] at HP ⊢
    go_enter Try.func11, Try.ntmps11
    go_wp2_with fail
    refine (HP.out _).mono ?_
    rintro e w1 ⟨rfl, hL1, hk1⟩
    have HL1 := Lib.hid hL1
    have HK1 := Lib.hid ((HK.out _).trans hk1)
    clear hL1 hk1
    go_wp2_with fail
    go_ret2
    unfold OLed
    rw [HN.out, HE.out, HS.out]
    exact ⟨rfl, HL1.out, HK1.out⟩
  · by_cases h1 : d = 1
    · subst h1
      have HN := Lib.hid (show oN per s ⟨1, p, e, A, c, ps⟩ = rN per s e p by unfold oN; rw [if_neg (show ¬ (1 : Int) = 0 by decide), if_pos rfl])
      have HE := Lib.hid (show oE per s ⟨1, p, e, A, c, ps⟩ = rE per s e p by unfold oE; rw [if_neg (show ¬ (1 : Int) = 0 by decide), if_pos rfl])
      have HS := Lib.hid (show oS per s ⟨1, p, e, A, c, ps⟩ = rS per s e p by unfold oS; rw [if_neg (show ¬ (1 : Int) = 0 by decide), if_pos rfl])
      have HP := Lib.hid (fun ob => rev_led (HLA.out ob) HG.out e p)
      generalize ps.length = n
      go_enter Try.func11, Try.ntmps11
      go_wp2_with fail
      refine (HP.out _).mono ?_
      rintro e w1 ⟨rfl, hL1, hk1⟩
      have HL1 := Lib.hid hL1
      have HK1 := Lib.hid ((HK.out _).trans hk1)
      clear hL1 hk1
      go_wp2_with fail
      go_ret2
      unfold OLed
      rw [HN.out, HE.out, HS.out]
      exact ⟨rfl, HL1.out, HK1.out⟩
    · have HN := Lib.hid (show oN per s ⟨d, p, e, A, c, ps⟩ = 0 by unfold oN; rw [if_neg h0, if_neg h1])
      have HE := Lib.hid (show oE per s ⟨d, p, e, A, c, ps⟩ = closeE per s.opn p by unfold oE; rw [if_neg h0, if_neg h1])
      have HS := Lib.hid (show oS per s ⟨d, p, e, A, c, ps⟩ = cS per s p by unfold oS; rw [if_neg h0, if_neg h1])
      have HP := Lib.hid (fun ob => close_led (HLA.out ob) HG.out p)
      have k0 : (d == 0) = false := by simpa using h0
      have k1 : (d == 1) = false := by simpa using h1
      generalize ps.length = n
      go_enter Try.func11, Try.ntmps11
      go_wp2_with fail
      refine (HP.out _).mono ?_
      rintro e w1 ⟨rfl, hL1, hk1⟩
      have HL1 := Lib.hid hL1
      have HK1 := Lib.hid ((HK.out _).trans hk1)
      clear hL1 hk1
      go_wp2_with fail
      go_ret2
      unfold OLed
      rw [HN.out, HE.out, HS.out]
      exact ⟨rfl, HL1.out, HK1.out⟩
end
def bigP (x : Int) (n : Nat) : Prop := 24 < n ∨ 12 < x ∧ x ≤ 240
instance (x : Int) (n : Nat) : Decidable (bigP x n) := by unfold bigP; infer_instance
def largeB (x : Int) (ops : List OpV) : Bool := ops.any (fun o => decide (40 < o.ps.length)) || decide (bigP x ops.length)
theorem op_cells {w : World} {A : Option Addr} {ops : List OpV} {k : Nat} (hr : Row w 0 A (ops.flatMap OpV.cell)) (hk : k < ops.length) :
    ∃ ad, A = some ad ∧ w.cell? (ad.add (k * 4)) = some (.int .i64 ops[k].d) ∧ w.cell? ⟨(ad.add (k * 4)).block, (ad.add (k * 4)).off + 1, none⟩ = some (.int .i64 ops[k].p) ∧ w.cell? ⟨(ad.add (k * 4)).block, (ad.add (k * 4)).off + 2, none⟩ = some (.int .i64 ops[k].e) ∧ w.cell? ⟨(ad.add (k * 4)).block, (ad.add (k * 4)).off + 3, none⟩ = some (.slice ops[k].A ops[k].ps.length ops[k].c) := by
  obtain ⟨ad, had, _, hc⟩ := hr (by rw [flat_len op_len]; omega)
  have step : ∀ i, 0 < i → (ad.add (k * 4)).add i = ⟨(ad.add (k * 4)).block, (ad.add (k * 4)).off + i, none⟩ := by
    intro i hi
    generalize ad.add (k * 4) = p
    unfold Addr.add
    rw [if_neg (by omega)]
  have cellj : ∀ j, j < 4 → ∀ u, (OpV.cell ops[k])[j]? = some u → w.cell? (ad.add (k * 4 + j)) = some u := fun j hj u hu => hc (k * 4 + j) u ((flat_at op_len hk j hj).trans hu)
  refine ⟨ad, had, by simpa using cellj 0 (by omega) _ rfl, ?_, ?_, ?_⟩
  · rw [← step 1 (by omega), add_add]; exact cellj 1 (by omega) _ rfl
  · rw [← step 2 (by omega), add_add]; exact cellj 2 (by omega) _ rfl
  · rw [← step 3 (by omega), add_add]; exact cellj 3 (by omega) _ rfl
set_option maxHeartbeats 1000000 in
set_option maxRecDepth 100000 in
theorem large_is (x : Int) (A : Option Addr) (ops : List OpV) (c : Nat) (w : World) (hx : I64 x) (hr : Row w 0 A (ops.flatMap OpV.cell)) (hQ : ∀ o ∈ ops, o.ps.length ≤ maxLen) (hl : ops.length ≤ maxLen) (b : Bool) (hb : largeB x ops = b) :
    Calls Try.prog 8 #[.int .i64 x, .slice A ops.length c] w fun e w' => e = .returned (.bool b) ∧ w = w' := by
  have HR := Lib.hid hr
  have HB := Lib.hid hb
  have HQ := Lib.hid hQ
  obtain ⟨n, hn⟩ : ∃ n, ops.length = n := ⟨_, rfl⟩
  rw [hn] at hl ⊢
  have HN := Lib.hid hn
  have hl2 : (n : Int) ≤ 9223372036854775807 := by unfold maxLen at hl; omega
  clear hr hb hn hQ hl
  go_enter Try.func8, Try.ntmps8
  go_wp2_with fail
  go_loopw [8] (fun v wr => ∃ k : Nat, v = .int .i64 (k : Int) ∧ k ≤ n ∧ (∀ o ∈ ops.take k, ¬ 40 < o.ps.length) ∧ w = wr) (fun v _ => n - (intOf v).toNat)
  case atStart => exact ⟨0, rfl, by omega, by simp, rfl⟩
  case round =>
    obtain ⟨k, rfl, hk, hany, rfl⟩ := hrel
    have HANY := Lib.hid hany
    have g0 : (0 : Int) ≤ (k : Int) := Int.natCast_nonneg _
    clear hany
    by_cases hlt : k < n
    · have hkl : k < ops.length := by rw [HN.out]; exact hlt
      obtain ⟨ad, rfl, _, _, _, c3⟩ := op_cells HR.out hkl
      have hta := take_end hkl
      have hm : ops[k] ∈ ops := List.getElem_mem _
      obtain ⟨o, ho⟩ : ∃ o, o = ops[k] := ⟨_, rfl⟩
      rw [← ho] at c3 hta hm
      have HT := Lib.hid hta
      have HM := Lib.hid hm
      have hol := HQ.out o hm
      have hol2 : (o.ps.length : Int) ≤ 9223372036854775807 := by unfold maxLen at hol; omega
      have g1 : (k : Int) < (n : Int) := by omega
      clear hta hm ho hol
      by_cases h40 : 40 < o.ps.length
      · have g2 : (40 : Int) < (o.ps.length : Int) := by omega
        have HBT := Lib.hid (show b = true by
          rw [← HB.out]; unfold largeB
          rw [Bool.or_eq_true, List.any_eq_true]
          exact .inl ⟨o, HM.out, by simpa using h40⟩)
        generalize o.ps.length = m at *
        clear h40
        go_wp2_with fail
        go_ret
        exact ⟨by rw [HBT.out]; rfl, rfl⟩
      · have g2 : ¬ (40 : Int) < (o.ps.length : Int) := by omega
        have H40 := Lib.hid h40
        obtain ⟨m, hm⟩ : ∃ m, o.ps.length = m := ⟨_, rfl⟩
        rw [hm] at c3 hol2 g2
        clear h40 hm
        go_wp2_with fail
        go_roundw
        case rel => exact ⟨k + 1, by go_num, by omega, fun z hz => by
            rw [HT.out] at hz
            rcases List.mem_append.1 hz with h | h
            · exact HANY.out z h
            · rw [List.mem_singleton.1 h]; exact H40.out, trivial⟩
        case measure => simp only [intOf]; omega
    · obtain rfl : k = n := by omega
      have HF := Lib.hid (show decide (bigP x k) = b by
        have h1 : ops.any (fun o => decide (40 < o.ps.length)) = false := by
          rw [List.any_eq_false]
          intro o ho
          have := HANY.out o (by rw [List.take_of_length_le (by rw [HN.out]; exact Nat.le_refl _)]; exact ho)
          simpa using this
        rw [← HB.out]; unfold largeB; rw [h1, HN.out, Bool.false_or])
      by_cases q1 : 24 < k
      · have g2 : (24 : Int) < (k : Int) := by omega
        have HBT := Lib.hid (show b = true by rw [← HF.out]; simp [bigP, q1])
        clear HF HB q1
        go_wp2_with fail
        go_ret
        exact ⟨by rw [HBT.out]; rfl, rfl⟩
      · have g2 : ¬ (24 : Int) < (k : Int) := by omega
        by_cases q2 : 12 < x
        · by_cases q3 : x ≤ 240
          · have HBT := Lib.hid (show b = true by rw [← HF.out]; simp [bigP, q2, q3])
            clear HF HB q1
            go_wp2_with fail
            go_ret
            exact ⟨by rw [HBT.out]; rfl, rfl⟩
          · have HBT := Lib.hid (show b = false by rw [← HF.out]; simp [bigP, q1, q3])
            clear HF HB q1
            go_wp2_with fail
            go_ret
            exact ⟨by rw [HBT.out]; rfl, rfl⟩
        · have HBT := Lib.hid (show b = false by rw [← HF.out]; simp [bigP, q1, q2])
          clear HF HB q1
          go_wp2_with fail
          go_ret
          exact ⟨by rw [HBT.out]; rfl, rfl⟩
end
section
open Go.RowKit Go.Proofs.Ytmijcgcppankcaa.Cents Go.Proofs.Ytmijcgcppankcaa.MV Go.Proofs.Ytmijcgcppankcaa.Net Go.Proofs.Ytmijcgcppankcaa.CO
open Go.Maps (Keyed)
set_option linter.unusedVariables false
set_option linter.unusedSimpArgs false

def okB (per q : Nat) (r : List Int) : Bool := decide (I64 (r.getD q 0)) && (List.range per).all (fun p => decide (p < q) || decide (I64 (r.take (p + 1)).sum))
theorem okB_iff (per q : Nat) (r : List Int) : okB per q r = true ↔ okRow per q r := by
  unfold okB okRow
  rw [Bool.and_eq_true, decide_eq_true_iff, List.all_eq_true]
  constructor
  · rintro ⟨h1, h2⟩
    refine ⟨h1, fun p hq hp => ?_⟩
    have := h2 p (List.mem_range.2 hp)
    rw [Bool.or_eq_true, decide_eq_true_iff, decide_eq_true_iff] at this
    exact this.resolve_left (by omega)
  · rintro ⟨h1, h2⟩
    refine ⟨h1, fun p hp => ?_⟩
    rw [Bool.or_eq_true, decide_eq_true_iff, decide_eq_true_iff]
    by_cases h : p < q
    · exact .inl h
    · exact .inr (h2 p (by omega) (List.mem_range.1 hp))
def fitB (per : Nat) (es : List Ent) (q : Nat) (ps : List Post) : Bool := ps.all fun p => okB per q (newRow (rowL es per p.acc p.ct) q (pam p.acc p.ct ps))
theorem fitB_iff {per : Nat} {es : List Ent} {q : Nat} {ps : List Post} (hI : ∀ p ∈ ps, Post.I p) : fitB per es q ps = true ↔ fitAll per es q ps := by
  unfold fitB fitAll
  rw [List.all_eq_true]
  constructor
  · intro h a c ha hc hp
    obtain ⟨p, hp1, rfl, rfl⟩ := pam_some hp
    exact (okB_iff _ _ _).1 (h p hp1)
  · intro h p hp
    exact (okB_iff _ _ _).2 (h p.acc p.ct (hI p hp).1 (hI p hp).2.1 (pam_pos hp))
def evB (ps : List Post) : Bool := ps.all (fun p => decide ((amts p.ct ps).sum = 0))
theorem evB_iff (ps : List Post) : evB ps = true ↔ evenP ps := by
  unfold evB evenP
  rw [List.all_eq_true]
  simp only [decide_eq_true_iff]
def chkB (per : Nat) (opn : Int) (n : Nat) (x : Int) (ps : List Post) : Int :=
  if ¬ hasP per x ∨ ps.length = 0 ∨ 32 < ps.length ∨ noAny ps = true then 1 else if x < opn then 7 else if evB ps = false then 10 else if n = 5000 then 4 else 0
theorem chkB_eq (per : Nat) (opn : Int) (n : Nat) (x : Int) (ps : List Post) : chkE per opn n x ps = chkB per opn n x ps := by
  unfold chkE chkB
  have h := evB_iff ps
  by_cases h1 : ¬ hasP per x ∨ ps.length = 0 ∨ 32 < ps.length ∨ noAny ps = true
  · rw [if_pos h1, if_pos h1]
  · rw [if_neg h1, if_neg h1]
    by_cases h2 : x < opn
    · rw [if_pos h2, if_pos h2]
    · rw [if_neg h2, if_neg h2]
      by_cases h3 : evenP ps
      · rw [if_neg (fun c => c h3), if_neg (show ¬ evB ps = false by rw [h.2 h3]; decide)]
      · rw [if_pos h3, if_pos (show evB ps = false by cases he : evB ps with | false => rfl | true => exact absurd (h.1 he) h3)]
def pB (per : Nat) (s : St) (x : Int) (ps : List Post) : Int := if chkB per s.opn s.es.length x ps = 0 then (if fitB per s.es x.toNat ps = true then 0 else 3) else chkB per s.opn s.es.length x ps
theorem pB_eq {per : Nat} {s : St} {x : Int} {ps : List Post} (hI : ∀ p ∈ ps, Post.I p) : pE per s x ps = pB per s x ps := by
  unfold pE pB
  rw [chkB_eq]
  by_cases h : chkB per s.opn s.es.length x ps = 0
  · rw [if_pos h, if_pos h]
    have h2 := fitB_iff (per := per) (es := s.es) (q := x.toNat) hI
    by_cases h3 : fitB per s.es x.toNat ps = true
    · rw [if_pos (h2.1 h3), if_pos h3]
    · rw [if_neg (fun c => h3 (h2.2 c)), if_neg h3]
  · rw [if_neg h, if_neg h]
def pIB (ps : List Post) : Bool := ps.all fun p => decide (I64 p.acc) && (decide (I64 p.ct) && decide (I64 p.amt))
theorem pIB_iff {ps : List Post} (h : pIB ps = true) : ∀ p ∈ ps, Post.I p := fun p hp => by
  unfold pIB at h
  rw [List.all_eq_true] at h
  have := h p hp
  rw [Bool.and_eq_true, Bool.and_eq_true, decide_eq_true_iff, decide_eq_true_iff, decide_eq_true_iff] at this
  exact this
def rB (per : Nat) (s : St) (at_ x : Int) : Int :=
  if ¬ hasP s.es.length at_ then 5 else if (s.es.getD at_.toNat e0).turned = true then 6 else if (s.es.getD at_.toNat e0).ps.any (fun p => decide (¬ I64 (0 - p.amt))) = true then 3 else pB per s x (negP (s.es.getD at_.toNat e0).ps)
theorem rB_eq {per : Nat} {s : St} {at_ x : Int} (hI : ∀ p ∈ (s.es.getD at_.toNat e0).ps, Post.I p) : rE per s at_ x = rB per s at_ x := by
  unfold rE rB
  by_cases h1 : ¬ hasP s.es.length at_
  · rw [if_pos h1, if_pos h1]
  · rw [if_neg h1, if_neg h1]
    by_cases h2 : (s.es.getD at_.toNat e0).turned = true
    · rw [if_pos h2, if_pos h2]
    · rw [if_neg h2, if_neg h2]
      have h : ((s.es.getD at_.toNat e0).ps.any (fun p => decide (¬ I64 (0 - p.amt))) = true) ↔ ∃ p ∈ (s.es.getD at_.toNat e0).ps, ¬ I64 (0 - p.amt) := by
        rw [List.any_eq_true]; simp only [decide_eq_true_iff]
      by_cases h3 : ∃ p ∈ (s.es.getD at_.toNat e0).ps, ¬ I64 (0 - p.amt)
      · rw [if_pos h3, if_pos (h.2 h3)]
      · rw [if_neg h3, if_neg (fun c => h3 (h.1 c))]
        refine pB_eq fun p hp => ?_
        unfold negP at hp
        obtain ⟨p0, hp0, rfl⟩ := List.mem_map.1 hp
        have := hI p0 hp0
        exact ⟨this.1, this.2.1, Classical.byContradiction fun c => h3 ⟨p0, hp0, c⟩⟩
theorem new_led (x : Int) (w : World) (hx : I64 x) (h : newE x = 0) :
    Calls Try.prog 9 #[.int .i64 x] w fun e w' => ∃ L per : Nat, x = (per : Int) ∧ e = .returned (.tuple #[lv L, .int .i64 0]) ∧ Led w.heap.size L per ⟨0, []⟩ w' ∧ LedP per ⟨0, []⟩ ∧ Below w.heap.size w w' := by
  refine (new_is x w hx).mono ?_
  rintro e w' ⟨hb, (⟨hne, _⟩ | ⟨_, L, M, per, rfl, hG, rfl, hW⟩)⟩
  · exact absurd h hne
  · exact ⟨L, per, rfl, rfl, ⟨hb.size, [], none, 0, M, _, hW, rfl⟩, LedP.ofG hG (fun y hy => by cases hy), hb⟩
theorem new_no (x : Int) (w : World) (hx : I64 x) (h : newE x ≠ 0) :
    Calls Try.prog 9 #[.int .i64 x] w fun e w' => e = .returned (.tuple #[.pointer none, .int .i64 1]) ∧ Below w.heap.size w w' := by
  refine (new_is x w hx).mono ?_
  rintro e w' ⟨hb, (⟨_, rfl⟩ | ⟨h0, _⟩)⟩
  · exact ⟨rfl, hb⟩
  · exact absurd h0 h
/-- Of awake. -/
structure Aw (w0 : World) (L : Nat) (s : St) (w : World) : Prop where
  led : Led w0.heap.size L 3 s w
  ok : LedP 3 s
  be : Below w0.heap.size w0 w
section
variable {w0 w : World} {L : Nat} {s : St}
theorem Aw.later {w' : World} (h : Aw w0 L s w) (hb : Below w.heap.size w w') : Aw w0 L s w' := ⟨h.led.later hb, h.ok, h.be.trans (hb.mono h.be.size)⟩
theorem aw_post (h : Aw w0 L s w) (x : Int) (ps : List Post) (n E : Int) (S : St) (hI : pIB ps = true) (hl : ps.length ≤ 1000) (hE : pB 3 s x ps = E) (hN : (if E = 0 then (s.es.length : Int) else 0) = n) (hS : (if E = 0 then ⟨s.opn, s.es ++ [⟨x.toNat, ps, false⟩]⟩ else s) = S) :
    Calls Try.prog 26 #[lv L, .int .i64 x, .slice (some ⟨w.heap.size, 0, none⟩) ps.length ps.length] (w.alloc (.cells (cells ps).toArray 48)) fun e w' => e = .returned (.tuple #[.int .i64 n, .int .i64 E]) ∧ Aw w0 L S w' := by
  have hI' := pIB_iff hI
  have hal := alloc1 w (.cells (cells ps).toArray 48)
  have h1 := h.later hal
  have hrow : Row (w.alloc (.cells (cells ps).toArray 48)) 0 (some ⟨w.heap.size, 0, none⟩) (cells ps) := Row.of_blk (Blk.new w _ _) (Nat.zero_le _) rfl
  refine (post_led h1.led h.ok x _ ps _ hrow hl hI').mono ?_
  have hG := ledp_post (x := x) h.ok hI'
  have e1 : pE 3 s x ps = E := (pB_eq hI').trans hE
  have e2 : pN 3 s x ps = n := by unfold pN; rw [e1]; exact hN
  have e3 : pS 3 s x ps = S := by unfold pS; rw [e1]; exact hS
  rw [e3] at hG
  rintro e w' ⟨rfl, hL, hk⟩
  rw [e3] at hL
  exact ⟨by rw [e1, e2], hL, hG, hk.below h1.be (Nat.le_refl _)⟩
theorem aw_rev (h : Aw w0 L s w) (at_ x : Int) (n E : Int) (S : St) (hE : rB 3 s at_ x = E) (hI : pIB (s.es.getD at_.toNat e0).ps = true) (hN : (if E = 0 then (s.es.length : Int) else 0) = n)
    (hS : (if E = 0 then ⟨s.opn, turnE s.es at_.toNat ++ [⟨x.toNat, negP (s.es.getD at_.toNat e0).ps, true⟩]⟩ else s) = S) :
    Calls Try.prog 27 #[lv L, .int .i64 at_, .int .i64 x] w fun e w' => e = .returned (.tuple #[.int .i64 n, .int .i64 E]) ∧ Aw w0 L S w' := by
  refine (rev_led h.led h.ok at_ x).mono ?_
  have hG := ledp_rev (at_ := at_) (x := x) h.ok
  have e1 : rE 3 s at_ x = E := (rB_eq (pIB_iff hI)).trans hE
  have e2 : rN 3 s at_ x = n := by unfold rN; rw [e1]; exact hN
  have e3 : rS 3 s at_ x = S := by unfold rS; rw [e1]; exact hS
  rw [e3] at hG
  rintro e w' ⟨rfl, hL, hk⟩
  rw [e3] at hL
  exact ⟨by rw [e1, e2], hL, hG, hk.below h.be (Nat.le_refl _)⟩
theorem aw_close (h : Aw w0 L s w) (x E : Int) (S : St) (hE : closeE 3 s.opn x = E) (hS : cS 3 s x = S) :
    Calls Try.prog 28 #[lv L, .int .i64 x] w fun e w' => e = .returned (.int .i64 E) ∧ Aw w0 L S w' := by
  refine (close_led h.led h.ok x).mono ?_
  have hG := ledp_close (x := x) h.ok
  rw [hS] at hG
  rintro e w' ⟨rfl, hL, hk⟩
  rw [hS] at hL
  exact ⟨by rw [hE], hL, hG, hk.below h.be (Nat.le_refl _)⟩
end
def p1 : List Post := [⟨0, 1, 50⟩, ⟨1, 1, -50⟩]
def p2 : List Post := [⟨0, 1, 50⟩, ⟨1, 2, -50⟩]
def p3 : List Post := [⟨0, 1, 0⟩]
def s0 : St := ⟨0, []⟩
def s1 : St := ⟨0, [⟨0, p1, false⟩]⟩
def s2 : St := ⟨1, [⟨0, p1, false⟩]⟩
def s3 : St := ⟨1, [⟨0, p1, true⟩, ⟨1, negP p1, true⟩]⟩
theorem a1 : pB 3 s0 0 p1 = 0 := by decide +kernel
theorem a2 : pB 3 s1 0 p2 = 10 := by decide +kernel
theorem a3 : pB 3 s2 0 p3 = 7 := by decide +kernel
theorem a4 : rB 3 s2 0 1 = 0 := by decide +kernel
theorem a5 : rB 3 s3 1 1 = 6 := by decide +kernel
theorem a6 : totN 3 s3.es 1 0 = -50 ∧ totE 3 s3.es 1 0 = 0 := by decide +kernel
theorem a7 : balR 3 s3.es 0 1 0 = 50 := by decide +kernel
theorem a8 : balR 3 s3.es 0 1 2 = 0 := by decide +kernel
theorem a9 : movR 3 s3.es 0 1 1 = -50 := by decide +kernel
theorem a10 : enN s3 1 = 1 ∧ enE s3 1 = 0 ∧ (enP s3 1).length = 2 := by decide +kernel
set_option maxHeartbeats 4000000 in
set_option maxRecDepth 100000 in
theorem awake09 (w : World) : Calls Try.prog 7 #[] w fun e w' => e = .returned (.bool true) ∧ Below w.heap.size w w' := by
  go_enter Try.func7, Try.ntmps7
  go_wp2_with fail
  refine (new_led 3 w (by decide) (by decide)).mono ?_
  rintro e w1 ⟨L, per, hper, rfl, hL, hP, hb⟩
  obtain rfl : per = 3 := by omega
  have HA := Lib.hid (show Aw w L s0 w1 from ⟨hL, hP, hb⟩)
  clear hL hP hb hper
  go_wp2_with fail
  refine (new_no 0 _ (by decide) (by decide)).mono ?_
  rintro e w2 ⟨rfl, hb⟩
  have HA := Lib.hid (HA.out.later hb)
  clear hb
  go_wp2_with fail
  refine (aw_post HA.out 0 p1 0 0 s1 (by decide +kernel) (by decide) a1 rfl rfl).mono ?_
  rintro e w3 ⟨rfl, hA⟩
  have HA := Lib.hid hA
  clear hA
  go_wp2_with fail
  refine (aw_post HA.out 0 p2 0 10 s1 (by decide +kernel) (by decide) a2 rfl rfl).mono ?_
  rintro e w4 ⟨rfl, hA⟩
  have HA := Lib.hid hA
  clear hA
  go_wp2_with fail
  refine (aw_close HA.out 0 0 s2 (by decide) (by rfl)).mono ?_
  rintro e w5 ⟨rfl, hA⟩
  have HA := Lib.hid hA
  clear hA
  go_wp2_with fail
  refine (aw_post HA.out 0 p3 0 7 s2 (by decide +kernel) (by decide) a3 rfl rfl).mono ?_
  rintro e w6 ⟨rfl, hA⟩
  have HA := Lib.hid hA
  clear hA
  go_wp2_with fail
  refine (aw_rev HA.out 0 1 1 0 s3 a4 (by decide +kernel) rfl rfl).mono ?_
  rintro e w7 ⟨rfl, hA⟩
  have HA := Lib.hid hA
  clear hA
  go_wp2_with fail
  refine (aw_rev HA.out 1 1 0 6 s3 a5 (by decide +kernel) rfl rfl).mono ?_
  rintro e w8 ⟨rfl, hA⟩
  have HA := Lib.hid hA
  clear hA
  go_wp2_with fail
  refine (total_led HA.out.led HA.out.ok 1 0 (-50) 0 a6).mono ?_
  rintro e w9 ⟨rfl, hb⟩
  have HA := Lib.hid (HA.out.later hb)
  clear hb
  go_wp2_with fail
  refine (entry_led HA.out.led HA.out.ok 1).mono ?_
  rintro e w10 ⟨B, cap, he, _, hb⟩
  rw [a10.1, a10.2.1, a10.2.2] at he
  subst he
  have HA := Lib.hid (HA.out.later hb)
  clear hb
  go_wp2_with fail
  refine (open_led HA.out.led).mono ?_
  rintro e w11 ⟨rfl, rfl⟩
  go_wp2_with fail
  refine (balance_led HA.out.led HA.out.ok 0 1 0 (by decide) (by decide) (by decide) 50 a7).mono ?_
  rintro e w12 ⟨rfl, hb⟩
  have HA := Lib.hid (HA.out.later hb)
  clear hb
  go_wp2_with fail
  refine (balance_led HA.out.led HA.out.ok 0 1 2 (by decide) (by decide) (by decide) 0 a8).mono ?_
  rintro e w13 ⟨rfl, hb⟩
  have HA := Lib.hid (HA.out.later hb)
  clear hb
  go_wp2_with fail
  refine (moved_led HA.out.led HA.out.ok 0 1 1 (by decide) (by decide) (by decide) (-50) a9).mono ?_
  rintro e w14 ⟨rfl, rfl⟩
  go_wp2_with fail
  refine (many_led HA.out.led).mono ?_
  rintro e w15 ⟨rfl, rfl⟩
  go_wp2_with fail
  go_ret
  exact ⟨rfl, HA.out.be⟩
end
section
open Go.RowKit Go.Proofs.Ytmijcgcppankcaa.Cents Go.Proofs.Ytmijcgcppankcaa.MV Go.Proofs.Ytmijcgcppankcaa.Net Go.Proofs.Ytmijcgcppankcaa.CO
open Go.Maps (Keyed)
set_option linter.unusedVariables false
set_option linter.unusedSimpArgs false

theorem oS_bad {per : Nat} {s : St} {o : OpV} (h : oE per s o ≠ 0) : oS per s o = s := by
  unfold oE at h
  unfold oS
  by_cases h0 : o.d = 0
  · rw [if_pos h0] at h ⊢
    unfold pS; rw [if_neg h]
  · rw [if_neg h0] at h ⊢
    by_cases h1 : o.d = 1
    · rw [if_pos h1] at h ⊢
      unfold rS; rw [if_neg h]
    · rw [if_neg h1] at h ⊢
      unfold cS; rw [if_neg h]
theorem amts_zero {ps : List Post} (h : evenP ps) (c : Int) : (amts c ps).sum = 0 := by
  by_cases he : ∃ p ∈ ps, p.ct = c
  · obtain ⟨p, hp, rfl⟩ := he
    exact h p hp
  · have : amts c ps = [] := by
      unfold amts
      rw [List.map_eq_nil_iff, List.filter_eq_nil_iff]
      intro p hp
      have : p.ct ≠ c := fun e => he ⟨p, hp, e⟩
      simpa using this
    rw [this]; rfl
theorem pam_cons (a c : Int) (p : Post) (ps : List Post) : (pam a c (p :: ps)).sum = (if p.acc = a ∧ p.ct = c then p.amt else 0) + (pam a c ps).sum := by
  unfold pam
  rw [List.filter_cons]
  by_cases h : p.acc = a ∧ p.ct = c
  · simp [h]
  · simp [h]
theorem amts_cons (c : Int) (p : Post) (ps : List Post) : (amts c (p :: ps)).sum = (if p.ct = c then p.amt else 0) + (amts c ps).sum := by
  unfold amts
  rw [List.filter_cons]
  by_cases h : p.ct = c
  · simp [h]
  · simp [h]
theorem pam4 {ps : List Post} (h : ∀ p ∈ ps, mayP p.acc p.ct) (c : Int) : (pam 0 c ps).sum + (pam 1 c ps).sum + (pam 2 c ps).sum + (pam 3 c ps).sum = (amts c ps).sum := by
  induction ps with
  | nil => rfl
  | cons p ps ih =>
    have ih := ih (fun q hq => h q (List.mem_cons_of_mem _ hq))
    have hp := h p (List.mem_cons_self ..)
    unfold mayP at hp
    rw [pam_cons, pam_cons, pam_cons, pam_cons, amts_cons]
    by_cases hc : p.ct = c
    · have : p.acc = 0 ∨ p.acc = 1 ∨ p.acc = 2 ∨ p.acc = 3 := by omega
      rcases this with e | e | e | e <;> simp [e, hc] <;> omega
    · simp [hc]; omega
theorem movL_cons (e : Ent) (es : List Ent) (a c : Int) (q : Nat) : movL (e :: es) a c q = (if e.q = q then (pam a c e.ps).sum else 0) + movL es a c q := by
  unfold movL
  rw [List.map_cons, List.sum_cons]
theorem mov4 {es : List Ent} (h : ∀ e ∈ es, evenP e.ps ∧ ∀ p ∈ e.ps, mayP p.acc p.ct) (c : Int) (q : Nat) : movL es 0 c q + movL es 1 c q + movL es 2 c q + movL es 3 c q = 0 := by
  induction es with
  | nil => rfl
  | cons e es ih =>
    have ih := ih (fun q hq => h q (List.mem_cons_of_mem _ hq))
    have he := h e (List.mem_cons_self ..)
    have h4 := pam4 he.2 c
    rw [amts_zero he.1 c] at h4
    rw [movL_cons, movL_cons, movL_cons, movL_cons]
    by_cases hq : e.q = q
    · simp only [hq, if_true]; omega
    · simp only [hq, if_false]; omega
theorem balL_sum {per : Nat} {es : List Ent} {a c : Int} {q : Nat} (h : q < per) : balL per es a c q = sumF (q + 1) (movL es a c) := by
  unfold balL rowL sumF
  rw [← List.map_take, List.take_range, Nat.min_eq_left (by omega)]
theorem LedP.may {per : Nat} {s : St} (h : LedP per s) : ∀ e ∈ s.es, evenP e.ps ∧ ∀ p ∈ e.ps, mayP p.acc p.ct := fun e he => ⟨(h.ok e he).2.2.2.1, fun p hp => ((h.ok e he).2.2.2.2 p hp).2⟩
theorem bal4 {per : Nat} {s : St} (h : LedP per s) (c : Int) {q : Nat} (hq : q < per) : balL per s.es 0 c q + balL per s.es 1 c q + balL per s.es 2 c q + balL per s.es 3 c q = 0 := by
  rw [balL_sum hq, balL_sum hq, balL_sum hq, balL_sum hq, ← sumF_add, ← sumF_add, ← sumF_add, sumF_same (g' := fun _ => 0) (fun i _ => mov4 h.may c i), sumF_zero]
theorem tot4 {per : Nat} {s : St} (h : LedP per s) {q : Nat} (hq : q < per) : totS per s.es 0 q + totS per s.es 1 q + totS per s.es 2 q + totS per s.es 3 q = 0 := by
  unfold totS
  rw [← sumF_add, ← sumF_add, ← sumF_add, sumF_same (g' := fun _ => 0) (fun i _ => bal4 h (i : Int) hq), sumF_zero]
theorem sumF4 (g : Nat → Int) : sumF 4 g = g 0 + g 1 + g 2 + g 3 := by
  rw [sumF_succ, sumF_succ, sumF_succ, sumF_succ]
  show 0 + _ + _ + _ + _ = _
  omega
theorem balR_in {per : Nat} {es : List Ent} {a k : Int} {q : Nat} (hq : q < per) : balR per es a k (q : Int) = balL per es a k q := by
  unfold balR balL
  rw [if_pos ⟨Int.natCast_nonneg _, by omega⟩, Int.toNat_natCast]
theorem balR_four {per : Nat} {s : St} (h : LedP per s) (c : Int) {q : Nat} (hq : q < per) : sumF 4 (fun i => balR per s.es (i : Int) c (q : Int)) = 0 := by
  rw [sumF4, balR_in hq, balR_in hq, balR_in hq, balR_in hq]
  exact bal4 h c hq
theorem totS_four {per : Nat} {s : St} (h : LedP per s) {q : Nat} (hq : q < per) : sumF 4 (fun i => totS per s.es (i : Int) q) = 0 := by
  rw [sumF4]
  exact tot4 h hq
theorem totN_ok {per : Nat} {es : List Ent} {i q : Nat} (hi : i < 4) (hq : q < per) (h : totE per es (i : Int) (q : Int) = 0) : totN per es (i : Int) (q : Int) = totS per es (i : Int) q := by
  have ho : totOk per (i : Int) (q : Int) := ⟨Int.natCast_nonneg _, by omega, Int.natCast_nonneg _, by omega⟩
  unfold totE at h
  unfold totN
  rw [if_pos ho, Int.toNat_natCast] at h ⊢
  unfold sumE at h
  unfold sumN
  by_cases hs : I64 (totS per es (i : Int) q)
  · rw [if_pos hs]
  · rw [if_neg hs] at h; omega
theorem sumN_I (x : Int) : I64 (sumN x) := by
  unfold sumN
  split
  · assumption
  · exact ⟨by decide, by decide⟩
theorem totN_I (per : Nat) (es : List Ent) (a x : Int) : I64 (totN per es a x) := by
  unfold totN
  split
  · exact sumN_I _
  · exact ⟨by decide, by decide⟩
theorem balR_I {per : Nat} {s : St} (h : LedP per s) {a k : Int} (ha : I64 a) (hk : I64 k) (x : Int) : I64 (balR per s.es a k x) := by
  unfold balR
  split
  · rename_i hp
    unfold hasP at hp
    exact (h.fit a k ha hk x.toNat (by omega)).2
  · exact ⟨by decide, by decide⟩
end
end Go.Proofs.Ytmijcgcppankcaa.AC
