/- Plain numbers for the reference's product: digits set one by one, a carry. -/
import Derived.Test.YtbdhbongaikphaaExactMath
namespace Go.Proofs.Ytbdhbongaikphaa.EM
set_option linter.unusedVariables false
set_option linter.unusedSimpArgs false

theorem val_set {l : List Int} {j : Nat} (h : j < l.length) (d : Int) : val (l.set j d) = val l + 1000 ^ j * (d - dig l j) := by
  induction l generalizing j with
  | nil => simp at h
  | cons x l ih =>
    cases j with
    | zero => simp [val, dig]; omega
    | succ j =>
      simp only [List.set_cons_succ, val]
      rw [ih (by simpa using h), dig_cons, Int.pow_succ, Int.mul_comm ((1000 : Int) ^ j) 1000, Int.mul_assoc, Int.mul_add]
      omega
theorem dig_set {l : List Int} {j : Nat} (h : j < l.length) (d : Int) (i : Nat) : dig (l.set j d) i = if j = i then d else dig l i := by
  unfold dig
  rw [List.getD_eq_getElem?_getD, List.getD_eq_getElem?_getD, List.getElem?_set]
  by_cases c : j = i
  · subst c; simp [h]
  · simp [c]
theorem Digs.set {l : List Int} (h : Digs l) (j : Nat) {d : Int} (h0 : 0 ≤ d) (h1 : d < 1000) : Digs (l.set j d) := fun x hx => by
  rcases List.mem_or_eq_of_mem_set hx with hx | rfl
  · exact h x hx
  · exact ⟨h0, h1⟩
theorem low_step {ds : List Int} (h : Digs ds) (n : Nat) : low ds n ≤ low ds (n + 1) := by
  have := Int.mul_nonneg (Int.le_of_lt (pow_pos' n)) (dig_range h n).1
  simp only [low]; omega
theorem low_mono {ds : List Int} (h : Digs ds) {n m : Nat} (hm : n ≤ m) : low ds n ≤ low ds m := by
  induction hm with
  | refl => exact Int.le_refl _
  | step _ ih => exact Int.le_trans ih (low_step h _)
theorem low_le {ds : List Int} (h : Digs ds) (n : Nat) : low ds n ≤ val ds := by
  rcases Nat.le_total n ds.length with c | c
  · rw [← low_val ds ds.length (Nat.le_refl _)]; exact low_mono h c
  · rw [low_val ds n c]; exact Int.le_refl _

/-- What is added so far: all digits of b for each digit of a below i, k digits of b for i. -/
def pos (a b : List Int) (i k : Nat) : Int := low a i * val b + 1000 ^ i * dig a i * low b k
theorem pos_zero (a b : List Int) : pos a b 0 0 = 0 := by simp [pos, low]
theorem pos_step (a b : List Int) (i k : Nat) : pos a b i (k + 1) = pos a b i k + 1000 ^ (i + k) * (dig a i * dig b k) := by
  unfold pos
  simp only [low]
  rw [Int.mul_add, Int.pow_add, Int.add_assoc]
  congr 2
  rw [Int.mul_assoc, Int.mul_assoc, Int.mul_left_comm (dig a i)]
theorem pos_next (a b : List Int) (i : Nat) : pos a b i b.length = pos a b (i + 1) 0 := by
  unfold pos
  rw [low_val b _ (Nat.le_refl _)]
  simp only [low]
  rw [Int.add_mul]; omega
theorem pos_end (a b : List Int) : pos a b a.length 0 = val a * val b := by
  unfold pos
  rw [low_val a _ (Nat.le_refl _)]
  simp [low]
theorem pos_le {a b : List Int} (ha : Digs a) (hb : Digs b) (i k : Nat) : pos a b i k ≤ val a * val b := by
  have h1 : pos a b i k ≤ low a (i + 1) * val b := by
    unfold pos
    simp only [low]
    rw [Int.add_mul]
    have := Int.mul_le_mul_of_nonneg_left (low_le hb k) (Int.mul_nonneg (Int.le_of_lt (pow_pos' i)) (dig_range ha i).1)
    omega
  have h2 := Int.mul_le_mul_of_nonneg_right (low_le ha (i + 1)) (val_nonneg hb)
  omega
theorem prod_lt {a b : List Int} (ha : Digs a) (hb : Digs b) : val a * val b < 1000 ^ (a.length + b.length) := by
  rw [Int.pow_add]
  have h1 := val_lt ha
  have h2 := val_lt hb
  have h3 := val_nonneg ha
  have h4 := val_nonneg hb
  have h5 : val a * val b ≤ val a * 1000 ^ b.length := Int.mul_le_mul_of_nonneg_left (by omega) h3
  have h6 : val a * 1000 ^ b.length < 1000 ^ a.length * 1000 ^ b.length := Int.mul_lt_mul_of_pos_right h1 (pow_pos' _)
  omega
theorem pos_lt {a b : List Int} (ha : Digs a) (hb : Digs b) (i k : Nat) : pos a b i k < 1000 ^ (a.length + b.length) := by
  have := pos_le ha hb i k
  have := prod_lt ha hb
  omega

/-- While a carry runs: the row's value and the carry's are P together. -/
structure Carry (N : Nat) (P : Int) (out : List Int) (j : Nat) (over : Int) : Prop where
  digs : Digs out
  len : out.length = N + 2
  lo : 0 ≤ over
  hi : over ≤ 999
  lt : P < 1000 ^ N
  eq : val out + 1000 ^ j * over = P
theorem Carry.place {N : Nat} {P : Int} {out : List Int} {j : Nat} {over : Int} (h : Carry N P out j over) (ho : 0 < over) : j < N := by
  rcases Nat.lt_or_ge j N with c | c
  · exact c
  · exfalso
    have h1 := pow_mono c
    have h2 : (1000 : Int) ^ j * 1 ≤ 1000 ^ j * over := Int.mul_le_mul_of_nonneg_left (by omega) (Int.le_of_lt (pow_pos' j))
    have := val_nonneg h.digs
    have := h.lt
    have := h.eq
    omega
theorem carry_eq {l : List Int} {j : Nat} (h : j < l.length) (m : Int) : val (l.set j (m % 1000)) + 1000 ^ (j + 1) * (m / 1000) = val l + 1000 ^ j * (m - dig l j) := by
  rw [val_set h, Int.pow_succ, Int.mul_assoc, Int.add_assoc, ← Int.mul_add]
  congr 2
  omega
theorem Carry.step {N : Nat} {P : Int} {out : List Int} {j : Nat} {over : Int} (h : Carry N P out j over) (ho : 0 < over) : Carry N P (out.set j ((dig out j + over) % 1000)) (j + 1) ((dig out j + over) / 1000) := by
  have hj := h.place ho
  have hd := dig_range h.digs j
  have := h.hi
  refine ⟨h.digs.set _ (by omega) (by omega), by rw [List.length_set]; exact h.len, by omega, by omega, h.lt, ?_⟩
  rw [carry_eq (by rw [h.len]; omega), ← h.eq]
  congr 2
  omega
theorem Carry.start {a b out : List Int} {i k : Nat} (ha : Digs a) (hb : Digs b) (ho : Digs out) (hl : out.length = a.length + b.length + 2) (hi : i < a.length) (hk : k < b.length) (he : val out = pos a b i k) :
    Carry (a.length + b.length) (pos a b i (k + 1)) (out.set (i + k) ((dig out (i + k) + dig a i * dig b k) % 1000)) (i + k + 1) ((dig out (i + k) + dig a i * dig b k) / 1000) := by
  have h1 := dig_range ha i
  have h2 := dig_range hb k
  have h3 := dig_range ho (i + k)
  have h4 : 0 ≤ dig a i * dig b k := Int.mul_nonneg h1.1 h2.1
  have h5 : dig a i * dig b k ≤ 999 * dig b k := Int.mul_le_mul_of_nonneg_right (by omega) h2.1
  refine ⟨ho.set _ (by omega) (by omega), by rw [List.length_set]; exact hl, by omega, by omega, pos_lt ha hb _ _, ?_⟩
  rw [carry_eq (by rw [hl]; omega), pos_step, he]
  congr 2
  omega
theorem Carry.done {N : Nat} {P : Int} {out : List Int} {j : Nat} {over : Int} (h : Carry N P out j over) (ho : ¬ 0 < over) : val out = P := by
  have := h.lo
  have e : over = 0 := by omega
  have := h.eq
  rw [e] at this
  omega
theorem digs_zeros (n : Nat) : Digs (List.replicate n 0) := fun d hd => by
  rw [List.mem_replicate] at hd
  omega
theorem val_zeros (n : Nat) : val (List.replicate n 0) = 0 := by
  induction n with
  | zero => rfl
  | succ n ih => simp only [List.replicate_succ, val, ih]; omega
theorem sgn_mul (m n : Int) (h : m * n ≠ 0) : sgn m * sgn n = sgn (m * n) := by
  rcases Int.lt_trichotomy m 0 with hm | hm | hm
  · rcases Int.lt_trichotomy n 0 with hn | hn | hn
    · have : 0 < m * n := Int.mul_pos_of_neg_of_neg hm hn
      unfold sgn; simp [hm, hn, show ¬ m * n < 0 by omega, h]
    · subst hn; simp at h
    · have : m * n < 0 := Int.mul_neg_of_neg_of_pos hm hn
      unfold sgn; simp [hm, show ¬ n < 0 by omega, show ¬ n = 0 by omega, this]
  · subst hm; simp at h
  · rcases Int.lt_trichotomy n 0 with hn | hn | hn
    · have : m * n < 0 := Int.mul_neg_of_pos_of_neg hm hn
      unfold sgn; simp [hn, show ¬ m < 0 by omega, show ¬ m = 0 by omega, this]
    · subst hn; simp at h
    · have : 0 < m * n := Int.mul_pos hm hn
      unfold sgn; simp [show ¬ m < 0 by omega, show ¬ m = 0 by omega, show ¬ n < 0 by omega, show ¬ n = 0 by omega, show ¬ m * n < 0 by omega, h]
end Go.Proofs.Ytbdhbongaikphaa.EM
