/- The check of bytes, as plain data: what it tells of other bytes. -/
import Derived.Lib.Strings
namespace Go.Proofs.YtjiphalannmcnaaDoor.REC
set_option linter.unusedVariables false
set_option linter.unusedSimpArgs false

abbrev B32 := BitVec 32
def tab : List B32 := [0#32, 498536548#32, 997073096#32, 651767980#32, 1994146192#32, 1802195444#32, 1303535960#32, 1342533948#32, 3988292384#32, 4027552580#32, 3604390888#32, 3412177804#32, 2607071920#32, 2262029012#32, 2685067896#32, 3183342108#32]
def tabAt (i : Nat) : B32 := tab.getD i 0#32
/-- Half a byte. -/
def nib (c x : B32) : B32 := (c >>> 4) ^^^ tabAt ((c ^^^ x) &&& 15#32).toNat
def byt (u : UInt8) : B32 := BitVec.ofNat 32 u.toNat
def step (c : B32) (u : UInt8) : B32 := nib (nib c (byt u)) (byt u >>> 4)
def run (c : B32) (l : List UInt8) : B32 := l.foldl step c
def chk (l : List UInt8) : B32 := ~~~ (run 4294967295#32 l)
theorem run_snoc (c : B32) (l : List UInt8) (u : UInt8) : run c (l ++ [u]) = step (run c l) u := by simp [run]
theorem run_app (c : B32) (a b : List UInt8) : run c (a ++ b) = run (run c a) b := by simp [run]
theorem low4 (x : B32) : (x &&& 15#32).toNat < 16 := by
  rw [BitVec.toNat_and]
  exact Nat.and_lt_two_pow _ (show (15#32).toNat < 2 ^ 4 by decide)
theorem tab_top : ∀ i j : Fin 16, (tabAt i.val) >>> 28 = (tabAt j.val) >>> 28 → i = j := by decide +kernel
theorem nib_top (c x : B32) : (nib c x) >>> 28 = (tabAt ((c ^^^ x) &&& 15#32).toNat) >>> 28 := by
  unfold nib
  rw [BitVec.ushiftRight_xor_distrib, ← BitVec.shiftRight_add, BitVec.ushiftRight_eq_zero (by decide), BitVec.zero_xor]
theorem xor_cancel {a b t : B32} (h : a ^^^ t = b ^^^ t) : a = b := by
  have := congrArg (fun x : B32 => x ^^^ t) h
  simpa [BitVec.xor_assoc] using this
theorem nib_out {c x c' x' : B32} (h : nib c x = nib c' x') : c >>> 4 = c' >>> 4 ∧ (c ^^^ x) &&& 15#32 = (c' ^^^ x') &&& 15#32 := by
  have h1 := nib_top c x
  rw [h, nib_top c' x'] at h1
  have h2 := tab_top ⟨_, low4 (c' ^^^ x')⟩ ⟨_, low4 (c ^^^ x)⟩ h1
  have h3 : ((c' ^^^ x') &&& 15#32).toNat = ((c ^^^ x) &&& 15#32).toNat := Fin.mk.inj h2
  refine ⟨?_, BitVec.eq_of_toNat_eq h3.symm⟩
  unfold nib at h
  rw [h3] at h
  exact xor_cancel h
theorem b15 (i : Nat) (h : i < 4) : (15#32).getLsbD i = true := by
  match i, h with
  | 0, _ => decide
  | 1, _ => decide
  | 2, _ => decide
  | 3, _ => decide
theorem low_bits {a b : B32} (h : a &&& 15#32 = b &&& 15#32) (i : Nat) (hi : i < 4) : a.getLsbD i = b.getLsbD i := by
  have := congrArg (·.getLsbD i) h
  simpa [BitVec.getLsbD_and, b15 i hi] using this
theorem high_bits {a b : B32} (h : a >>> 4 = b >>> 4) (i : Nat) (hi : 4 ≤ i) : a.getLsbD i = b.getLsbD i := by
  have := congrArg (·.getLsbD (i - 4)) h
  simp only [BitVec.getLsbD_ushiftRight] at this
  rwa [show 4 + (i - 4) = i by omega] at this
theorem nib_inj {c c' x : B32} (h : nib c x = nib c' x) : c = c' := by
  obtain ⟨h1, h2⟩ := nib_out h
  refine BitVec.eq_of_getLsbD_eq fun i hi => ?_
  by_cases h4 : i < 4
  · have := low_bits h2 i h4
    simpa [BitVec.getLsbD_xor] using this
  · exact high_bits h1 i (by omega)
theorem step_inj {c c' : B32} {u : UInt8} (h : step c u = step c' u) : c = c' := nib_inj (nib_inj h)
theorem run_inj {c c' : B32} {l : List UInt8} (h : run c l = run c' l) : c = c' := by
  induction l generalizing c c' with
  | nil => exact h
  | cons u l ih => exact step_inj (ih h)
theorem byt_inj {u v : UInt8} (h1 : byt u &&& 15#32 = byt v &&& 15#32) (h2 : (byt u >>> 4) &&& 15#32 = (byt v >>> 4) &&& 15#32) : u = v := by
  have a1 := congrArg BitVec.toNat h1
  have a2 := congrArg BitVec.toNat h2
  have hu := u.toNat_lt
  have hv := v.toNat_lt
  simp only [BitVec.toNat_and, BitVec.toNat_ushiftRight, byt, BitVec.toNat_ofNat] at a1 a2
  rw [Nat.mod_eq_of_lt (show u.toNat < 2 ^ 32 by omega), Nat.mod_eq_of_lt (show v.toNat < 2 ^ 32 by omega)] at a1 a2
  rw [show 15 % 2 ^ 32 = 2 ^ 4 - 1 by decide, Nat.and_two_pow_sub_one_eq_mod, Nat.and_two_pow_sub_one_eq_mod] at a1 a2
  rw [Nat.shiftRight_eq_div_pow, Nat.shiftRight_eq_div_pow] at a2
  refine UInt8.toNat_inj.1 ?_
  omega
theorem step_byte {c : B32} {u v : UInt8} (h : step c u = step c v) : u = v := by
  obtain ⟨h1, h2⟩ := nib_out h
  unfold nib at h1
  rw [BitVec.ushiftRight_xor_distrib, BitVec.ushiftRight_xor_distrib] at h1
  have h3 : (tabAt ((c ^^^ byt u) &&& 15#32).toNat) >>> 4 = (tabAt ((c ^^^ byt v) &&& 15#32).toNat) >>> 4 := by
    rw [BitVec.xor_comm, BitVec.xor_comm (c >>> 4 >>> 4)] at h1
    exact xor_cancel h1
  have h4 : (tabAt ((c ^^^ byt u) &&& 15#32).toNat) >>> 28 = (tabAt ((c ^^^ byt v) &&& 15#32).toNat) >>> 28 := by
    have := congrArg (fun x : B32 => x >>> 24) h3
    simpa only [← BitVec.shiftRight_add] using this
  have h5 := Fin.mk.inj (tab_top ⟨_, low4 (c ^^^ byt u)⟩ ⟨_, low4 (c ^^^ byt v)⟩ h4)
  have h6 : (c ^^^ byt u) &&& 15#32 = (c ^^^ byt v) &&& 15#32 := BitVec.eq_of_toNat_eq h5
  have h7 : nib c (byt u) = nib c (byt v) := by unfold nib; rw [h6]
  rw [h7] at h2
  refine byt_inj ?_ ?_
  · refine BitVec.eq_of_getLsbD_eq fun i hi => ?_
    simp only [BitVec.getLsbD_and]
    by_cases h8 : i < 4
    · have := low_bits h6 i h8
      simp only [BitVec.getLsbD_xor] at this
      rw [b15 i h8, Bool.and_true, Bool.and_true]
      simpa using this
    · have := congrArg (·.getLsbD i) h6
      simp only [BitVec.getLsbD_and, BitVec.getLsbD_xor] at this
      cases hb : (15#32).getLsbD i
      · simp
      · rw [hb] at this; simpa using this
  · refine BitVec.eq_of_getLsbD_eq fun i hi => ?_
    have := congrArg (·.getLsbD i) h2
    simp only [BitVec.getLsbD_and, BitVec.getLsbD_xor] at this ⊢
    cases hb : (15#32).getLsbD i
    · simp
    · rw [hb] at this; simpa using this
/-- One byte another: another check. -/
theorem chk_other {a b : List UInt8} {u v : UInt8} (h : u ≠ v) : chk (a ++ u :: b) ≠ chk (a ++ v :: b) := by
  intro e
  unfold chk at e
  have e2 : run 4294967295#32 (a ++ u :: b) = run 4294967295#32 (a ++ v :: b) := by
    have := congrArg (fun x : B32 => ~~~ x) e
    simpa using this
  rw [run_app, run_app] at e2
  exact h (step_byte (run_inj e2))
theorem chk_test : chk "123456789".toUTF8.data.toList = 0xcbf43926#32 := by decide +kernel
end Go.Proofs.YtjiphalannmcnaaDoor.REC
