/- What Join tells, as plain data. -/
import Derived.Test.YtjiphalannmcnaaDoorRecM2
import Derived.Lib.ConvBytes
import Derived.Lib.TrimByte
namespace Go.Proofs.YtjiphalannmcnaaDoor.REC
open Go.RowKit
set_option linter.unusedVariables false
set_option linter.unusedSimpArgs false

def All64 (bl : List ByteArray) : Prop := ∀ b ∈ bl, b.size = 64
def cat (bl : List ByteArray) : List UInt8 := bl.flatMap (·.data.toList)
def sumB (a : List UInt8) : Nat := (((a.getD 3 0).toNat * 256 + (a.getD 4 0).toNat) * 256 + (a.getD 5 0).toNat) * 256 + (a.getD 6 0).toNat
def hd0 (bl : List ByteArray) : ByteArray := bl.headD ByteArray.empty
def body (bl : List ByteArray) : List UInt8 := ((cat bl).drop 7).take (hdN (hd0 bl)).toNat
def tail0 (bl : List ByteArray) : Prop := ∀ b ∈ (cat bl).drop (7 + (hdN (hd0 bl)).toNat), b = 0
open Classical in
noncomputable def jnE (bl : List ByteArray) : Int :=
  if bl = [] ∨ ¬ All64 bl then 2 else if hdE (hd0 bl) ≠ 0 then hdE (hd0 bl) else if hdB (hd0 bl) = false ∨ (bl.length : Int) ≠ blkN (hdN (hd0 bl)) then 2
  else if (chk (body bl)).toNat ≠ sumB (cat bl) ∨ ¬ tail0 bl then 8 else 0
noncomputable def jnS (bl : List ByteArray) : ByteArray := if jnE bl = 0 then ⟨(body bl).toArray⟩ else ByteArray.empty
theorem cat_len {bl : List ByteArray} (h : All64 bl) : (cat bl).length = bl.length * 64 := by
  induction bl with
  | nil => rfl
  | cons b bl ih =>
    have h1 := h b (by simp)
    have h2 := ih (fun x hx => h x (by simp [hx]))
    unfold cat at h2 ⊢
    rw [List.flatMap_cons, List.length_append, h2, List.length_cons]
    have : b.data.toList.length = b.size := by simp
    omega
theorem jn_bad {bl : List ByteArray} {e : Int} (h : jnE bl = e) (he : e ≠ 0) : jnE bl = e ∧ jnS bl = ByteArray.empty := ⟨h, by unfold jnS; rw [if_neg (by rw [h]; exact he)]⟩
theorem jn_form {bl : List ByteArray} (h : bl = [] ∨ ¬ All64 bl) : jnE bl = 2 := by unfold jnE; rw [if_pos h]
theorem jn_head {bl : List ByteArray} (h0 : bl ≠ []) (h : All64 bl) (e : hdE (hd0 bl) ≠ 0) : jnE bl = hdE (hd0 bl) := by
  unfold jnE
  rw [if_neg (fun c => c.elim h0 (fun d => d h)), if_pos e]
theorem jn_mark {bl : List ByteArray} (h0 : bl ≠ []) (h : All64 bl) (e : hdE (hd0 bl) = 0) (hm : hdB (hd0 bl) = false ∨ (bl.length : Int) ≠ blkN (hdN (hd0 bl))) : jnE bl = 2 := by
  unfold jnE
  rw [if_neg (fun c => c.elim h0 (fun d => d h)), if_neg (fun c => c e), if_pos hm]
theorem jn_sum {bl : List ByteArray} (h0 : bl ≠ []) (h : All64 bl) (e : hdE (hd0 bl) = 0) (hm : ¬ (hdB (hd0 bl) = false ∨ (bl.length : Int) ≠ blkN (hdN (hd0 bl)))) (hs : (chk (body bl)).toNat ≠ sumB (cat bl) ∨ ¬ tail0 bl) : jnE bl = 8 := by
  unfold jnE
  rw [if_neg (fun c => c.elim h0 (fun d => d h)), if_neg (fun c => c e), if_neg hm, if_pos hs]
theorem jn_good {bl : List ByteArray} (h0 : bl ≠ []) (h : All64 bl) (e : hdE (hd0 bl) = 0) (hm : ¬ (hdB (hd0 bl) = false ∨ (bl.length : Int) ≠ blkN (hdN (hd0 bl)))) (hs : ¬ ((chk (body bl)).toNat ≠ sumB (cat bl) ∨ ¬ tail0 bl)) : jnE bl = 0 ∧ jnS bl = ⟨(body bl).toArray⟩ := by
  have h1 : jnE bl = 0 := by
    unfold jnE
    rw [if_neg (fun c => c.elim h0 (fun d => d h)), if_neg (fun c => c e), if_neg hm, if_neg hs]
  exact ⟨h1, by unfold jnS; rw [if_pos h1]⟩
/-- The sum that is told, byte by byte. -/
def pS (a : List UInt8) : Nat → Nat
  | 0 => 0
  | j + 1 => pS a j * 256 + (a.getD (3 + j) 0).toNat
theorem pS_four (a : List UInt8) : pS a 4 = sumB a := by simp [pS, sumB]
theorem pS_lt (a : List UInt8) : ∀ j, pS a j < 256 ^ j
  | 0 => by simp [pS]
  | j + 1 => by
    have h1 := pS_lt a j
    have h2 := (a.getD (3 + j) 0).toNat_lt
    show pS a j * 256 + (a.getD (3 + j) 0).toNat < 256 ^ (j + 1)
    rw [Nat.pow_succ]
    omega
theorem or_bytes32 (a b : Nat) (ha : a < 16777216) (hb : b < 256) : bits .or .u32 ((a : Int) * 256) (b : Int) = ((a * 256 + b : Nat) : Int) := by
  have e : ((a : Int) * 256) = ((a * 256 : Nat) : Int) := by omega
  have h1 : a * 256 ||| b = a * 256 + b := by
    have := Nat.two_pow_add_eq_or_of_lt (i := 8) (b := b) (by omega) a
    rw [show 2 ^ 8 * a = a * 256 by omega] at this
    exact this.symm
  rw [e, u32_or_nat _ _ (by omega) (by omega), h1]
theorem hdN_nat (s : ByteArray) : ∃ v : Nat, hdN s = (v : Int) := by
  unfold hdN
  by_cases h : hdB s = true
  · exact ⟨_, by rw [if_pos h]⟩
  · exact ⟨0, by rw [if_neg h]; rfl⟩
theorem dw_nil {p : UInt8 → Bool} {l : List UInt8} : l.dropWhile p = [] ↔ ∀ x ∈ l, p x = true := by
  induction l with
  | nil => simp
  | cons y l ih =>
    rw [List.dropWhile_cons]
    by_cases h : p y = true
    · rw [if_pos h, ih]
      simp [h]
    · rw [if_neg h]
      simp [h]
theorem trim_all (l : List UInt8) : Lib.trimB l 0 = [] ↔ ∀ b ∈ l, b = 0 := by
  have hall : ∀ (p : UInt8 → Bool) (l : List UInt8), ∀ x ∈ l.takeWhile p, p x = true := by
    intro p l
    induction l with
    | nil => simp
    | cons y l ih =>
      intro x hx
      rw [List.takeWhile_cons] at hx
      split at hx
      · rcases List.mem_cons.1 hx with rfl | h
        · assumption
        · exact ih x h
      · cases hx
  unfold Lib.trimB Lib.trimLeftB Lib.trimRightB
  rw [dw_nil]
  constructor
  · intro h b hb
    have hb2 : b ∈ l.reverse := by simpa using hb
    rw [← List.takeWhile_append_dropWhile (p := (· == (0 : UInt8))) (l := l.reverse)] at hb2
    rcases List.mem_append.1 hb2 with c | c
    · simpa using hall _ _ b c
    · simpa using h b (by simpa using c)
  · intro h x hx
    have hx2 : x ∈ l.reverse.dropWhile (· == (0 : UInt8)) := by simpa using hx
    have := h x (by simpa using (List.dropWhile_sublist _).subset hx2)
    simpa using this
end Go.Proofs.YtjiphalannmcnaaDoor.REC
