/- Plain numbers for package cents: the bit by bit division, the parts and the sum. No program in sight. -/
import Derived.IntWalk
import Derived.WalkSmall
import Derived.WalkKit
namespace Go.Proofs.Ytbdhbongaikphaa.CM
set_option linter.unusedVariables false

/-- One step of the division, q and r being the quotient and the rest of a * P by m. -/
theorem div_of {a m q r x : Nat} (hm : 0 < m) (h : q * m + r = x) (hr : r < m) : x / m = q ∧ x % m = r := by
  subst h
  constructor
  · rw [Nat.add_comm, Nat.mul_comm, Nat.add_mul_div_left _ _ hm, Nat.div_eq_of_lt hr, Nat.zero_add]
  · rw [Nat.add_comm, Nat.mul_comm, Nat.add_mul_mod_self_left, Nat.mod_eq_of_lt hr]

theorem pow_split (p n : Nat) : p / 2 ^ n = 2 * (p / 2 ^ (n + 1)) + p / 2 ^ n % 2 := by
  rw [Nat.pow_succ, ← Nat.div_div_eq_div_mul]; omega

/-- The state of the division with n bits to come. -/
structure St (a p m n q r : Nat) : Prop where
  eq : q * m + r = a * (p / 2 ^ n)
  lt : r < m

theorem st_start {a p m : Nat} (hm : 0 < m) (hp : p < 2 ^ 64) : St a p m 64 0 0 := ⟨by rw [Nat.div_eq_of_lt hp]; simp, hm⟩

/-- 2q, 2r and the carry. -/
def dq (m q r : Nat) : Nat := if m ≤ 2 * r then 2 * q + 1 else 2 * q
def dr (m r : Nat) : Nat := if m ≤ 2 * r then 2 * r - m else 2 * r

theorem st_zero {a p m n q r : Nat} (h : St a p m (n + 1) q r) (hb : p / 2 ^ n % 2 = 0) : St a p m n (dq m q r) (dr m r) := by
  have e := pow_split p n
  rw [hb, Nat.add_zero] at e
  have h1 := h.eq
  have h2 := h.lt
  have h3 : a * (2 * (p / 2 ^ (n + 1))) = 2 * (a * (p / 2 ^ (n + 1))) := by rw [Nat.mul_left_comm]
  refine ⟨?_, ?_⟩
  · rw [e, h3, ← h1]
    unfold dq dr
    split
    · rw [Nat.add_mul, Nat.mul_assoc]; omega
    · rw [Nat.mul_assoc]; omega
  · unfold dr; split <;> omega

/-- The step of a bit that is 1. -/
def oq (a m q r : Nat) : Nat := if m ≤ dr m r + a % m then dq m q r + a / m + 1 else dq m q r + a / m
def or' (a m r : Nat) : Nat := if m ≤ dr m r + a % m then dr m r + a % m - m else dr m r + a % m

theorem dr_lt {m r : Nat} (h : r < m) : dr m r < m := by unfold dr; split <;> omega

theorem st_one {a p m n q r : Nat} (hm : 0 < m) (h : St a p m (n + 1) q r) (hb : p / 2 ^ n % 2 = 1) : St a p m n (oq a m q r) (or' a m r) := by
  have e := pow_split p n
  rw [hb] at e
  have h1 := h.eq
  have h2 := h.lt
  have h3 : a * (2 * (p / 2 ^ (n + 1)) + 1) = 2 * (a * (p / 2 ^ (n + 1))) + a := by rw [Nat.mul_add, Nat.mul_left_comm, Nat.mul_one]
  have h4 : dq m q r * m + dr m r = 2 * (a * (p / 2 ^ (n + 1))) := by
    rw [← h1]
    unfold dq dr
    split
    · rw [Nat.add_mul, Nat.mul_assoc]; omega
    · rw [Nat.mul_assoc]; omega
  have h5 : a / m * m + a % m = a := by rw [Nat.mul_comm]; exact Nat.div_add_mod a m
  have h6 := dr_lt h2
  have h7 := Nat.mod_lt a hm
  refine ⟨?_, ?_⟩
  · rw [e, h3, ← h4]
    unfold oq or'
    split
    · rw [Nat.add_mul, Nat.add_mul]; omega
    · rw [Nat.add_mul]; omega
  · unfold or'; split <;> omega

/-- Where q is too great once, the whole quotient is. -/
theorem over_of {a p m n q r : Nat} (hm : 0 < m) (h : St a p m n q r) (hq : 2 ^ 64 ≤ q * 2 ^ n) : 2 ^ 64 ≤ a * p / m := by
  rw [Nat.le_div_iff_mul_le hm]
  have h1 := h.eq
  have h2 : a * (p / 2 ^ n) * 2 ^ n ≤ a * p := by
    rw [Nat.mul_assoc]; exact Nat.mul_le_mul_left a (Nat.div_mul_le_self p _)
  calc 2 ^ 64 * m ≤ q * 2 ^ n * m := Nat.mul_le_mul_right m hq
    _ = q * m * 2 ^ n := by rw [Nat.mul_right_comm]
    _ ≤ a * (p / 2 ^ n) * 2 ^ n := Nat.mul_le_mul_right _ (by omega)
    _ ≤ a * p := h2

theorem over_succ {a p m n q r : Nat} (hm : 0 < m) (h : St a p m (n + 1) q r) (hq : 2 ^ 63 ≤ q) : 2 ^ 64 ≤ a * p / m := by
  refine over_of hm h ?_
  have : 1 ≤ 2 ^ n := Nat.one_le_two_pow
  rw [Nat.pow_succ]
  calc 2 ^ 64 ≤ q * 2 := by omega
    _ = q * (1 * 2) := by omega
    _ ≤ q * (2 ^ n * 2) := Nat.mul_le_mul_left q (Nat.mul_le_mul_right 2 this)

theorem over_here {a p m n q r : Nat} (hm : 0 < m) (h : St a p m n q r) (hq : 2 ^ 64 ≤ q) : 2 ^ 64 ≤ a * p / m := by
  refine over_of hm h ?_
  have : 1 ≤ 2 ^ n := Nat.one_le_two_pow
  calc 2 ^ 64 ≤ q * 1 := by omega
    _ ≤ q * 2 ^ n := Nat.mul_le_mul_left q this

theorem st_end {a p m q r : Nat} (hm : 0 < m) (h : St a p m 0 q r) : a * p / m = q ∧ a * p % m = r :=
  div_of (a := a) hm (by have := h.eq; simpa using this) h.lt

/-! The same, as the walk spells it: q and r are integers, sums and doubles are wrapped. -/
theorem u64wrap (x : Int) : IntKind.u64.wrap x = x % 18446744073709551616 := by
  have h : IntKind.u64.wrap x = x % 2 ^ 64 := by simp [IntKind.wrap, IntKind.bits, IntKind.signed]
  rw [h]; rfl

section
variable {a p m n : Nat} {q r : Int}

/-- What is known of a state at the label, for q and r as integers. -/
structure Sz (a p m n : Nat) (q r : Int) : Prop where
  q0 : 0 ≤ q
  r0 : 0 ≤ r
  rm : r < m
  q64 : q < 18446744073709551616
  st : St a p m n q.toNat r.toNat

theorem dbl (h0 : 0 ≤ r) (hr : r < m) (hm : m ≤ 2 ^ 63) : IntKind.u64.wrap (r * 2) = r * 2 := by rw [u64wrap]; omega
theorem sub_ (h : (m : Int) ≤ r * 2) (hr : r < m) (hm : m ≤ 2 ^ 63) : IntKind.u64.wrap (r * 2 - m) = r * 2 - m := by rw [u64wrap]; omega

theorem bit_eq (hp : p < 2 ^ 64) : bits BinOp.and IntKind.u64 ((p : Int) / 2 ^ n) 1 = ((p / 2 ^ n % 2 : Nat) : Int) := by
  have e : ((p : Int) / 2 ^ n) = ((p / 2 ^ n : Nat) : Int) := by simp
  have hle : p / 2 ^ n ≤ p := Nat.div_le_self _ _
  have h2 : ((p / 2 ^ n : Nat) : Int) ≤ (p : Int) := Int.ofNat_le.2 hle
  rw [e, Go.and_one_u64 _ (Int.natCast_nonneg _) (by omega)]
  rfl

theorem over_top (hm : 0 < m) (h : Sz a p m (n + 1) q r) (hq : 9223372036854775808 ≤ q) : 2 ^ 64 ≤ a * p / m :=
  over_succ hm h.st (by have := h.q0; omega)

/-- The quotient and the rest behind the doubling. -/
theorem zero_step (h : Sz a p m (n + 1) q r) (hq : q < 9223372036854775808) (hb : p / 2 ^ n % 2 = 0) :
    Sz a p m n (if (m : Int) ≤ r * 2 then q * 2 + 1 else q * 2) (if (m : Int) ≤ r * 2 then r * 2 - m else r * 2) := by
  obtain ⟨q0, r0, rm, q64, st⟩ := h
  have z := st_zero st hb
  unfold dq dr at z
  by_cases c : (m : Int) ≤ r * 2
  · rw [if_pos c, if_pos c]
    rw [if_pos (by omega), if_pos (by omega)] at z
    refine ⟨by omega, by omega, by omega, by omega, ?_⟩
    rw [show (q * 2 + 1).toNat = 2 * q.toNat + 1 by omega, show (r * 2 - (m : Int)).toNat = 2 * r.toNat - m by omega]; exact z
  · rw [if_neg c, if_neg c]
    rw [if_neg (by omega), if_neg (by omega)] at z
    refine ⟨by omega, by omega, by omega, by omega, ?_⟩
    rw [show (q * 2).toNat = 2 * q.toNat by omega, show (r * 2).toNat = 2 * r.toNat by omega]; exact z

/-- A bit that is 1, d and e being the quotient and the rest behind the doubling: the sum as it is without a wrap. -/
theorem one_step {d e : Int} (hm : 0 < m) (ha : a < 2 ^ 64) (h : Sz a p m (n + 1) q r) (hq : q < 9223372036854775808) (hb : p / 2 ^ n % 2 = 1)
    (hd : d = if (m : Int) ≤ r * 2 then q * 2 + 1 else q * 2) (he : e = if (m : Int) ≤ r * 2 then r * 2 - m else r * 2) :
    0 ≤ d ∧ 0 ≤ e ∧ e < m ∧ d < 18446744073709551616 ∧ (a : Int) / m < 18446744073709551616 ∧ 0 ≤ (a : Int) / m ∧ (a : Int) % m < m ∧ 0 ≤ (a : Int) % m ∧
    St a p m n (if (m : Int) ≤ e + a % m then d + a / m + 1 else d + a / m).toNat (if (m : Int) ≤ e + a % m then e + a % m - m else e + a % m).toNat := by
  obtain ⟨q0, r0, rm, q64, st⟩ := h
  have z := st_one hm st hb
  have h1 : ((a / m : Nat) : Int) = (a : Int) / m := by simp
  have h2 : ((a % m : Nat) : Int) = (a : Int) % m := by simp
  have h3 : a / m ≤ a := Nat.div_le_self _ _
  have h4 := Nat.mod_lt a hm
  have h5 : 0 ≤ (a : Int) / m := Int.ediv_nonneg (by omega) (by omega)
  have h6 : 0 ≤ (a : Int) % m := Int.emod_nonneg _ (by omega)
  have hd' : d = dq m q.toNat r.toNat := by
    rw [hd]; unfold dq
    by_cases c : (m : Int) ≤ r * 2
    · rw [if_pos c, if_pos (by omega)]; omega
    · rw [if_neg c, if_neg (by omega)]; omega
  have he' : e = dr m r.toNat := by
    rw [he]; unfold dr
    by_cases c : (m : Int) ≤ r * 2
    · rw [if_pos c, if_pos (by omega)]; omega
    · rw [if_neg c, if_neg (by omega)]; omega
  have hlt := dr_lt st.lt
  have hdb : dq m q.toNat r.toNat < 18446744073709551616 := by unfold dq; split <;> omega
  refine ⟨by omega, by omega, by omega, by omega, by omega, by omega, by omega, by omega, ?_⟩
  rw [← h1, ← h2, hd', he']
  unfold oq or' at z
  by_cases c : m ≤ dr m r.toNat + a % m
  · rw [if_pos c, if_pos c] at z
    rw [if_pos (by omega), if_pos (by omega)]
    rw [show ((dq m q.toNat r.toNat : Int) + ((a / m : Nat) : Int) + 1).toNat = dq m q.toNat r.toNat + a / m + 1 by omega, show ((dr m r.toNat : Int) + ((a % m : Nat) : Int) - (m : Int)).toNat = dr m r.toNat + a % m - m by omega]
    exact z
  · rw [if_neg c, if_neg c] at z
    rw [if_neg (by omega), if_neg (by omega)]
    rw [show ((dq m q.toNat r.toNat : Int) + ((a / m : Nat) : Int)).toNat = dq m q.toNat r.toNat + a / m by omega, show ((dr m r.toNat : Int) + ((a % m : Nat) : Int)).toNat = dr m r.toNat + a % m by omega]
    exact z
end

section
variable {a p m n : Nat} {q r d e : Int}

/-- A bit as the walk tests it. -/
theorem bit_of (hp : p < 2 ^ 64) {b : Bool} (h : (bits BinOp.and IntKind.u64 ((p : Int) / 2 ^ n) 1 == 1) = b) : p / 2 ^ n % 2 = if b then 1 else 0 := by
  rw [bit_eq hp] at h
  have h2 := Nat.mod_two_eq_zero_or_one (p / 2 ^ n)
  rcases h2 with h2 | h2 <;> rw [h2] at h ⊢ <;> subst h <;> simp

theorem over1 (hm : 0 < m) (ha : a < 2 ^ 64) (hp : p < 2 ^ 64) (h : Sz a p m (n + 1) q r) (hq : q < 9223372036854775808) (hb : (bits BinOp.and IntKind.u64 ((p : Int) / 2 ^ n) 1 == 1) = true)
    (hd : d = if (m : Int) ≤ r * 2 then q * 2 + 1 else q * 2) (hl : IntKind.u64.wrap (d + a / m) < d) : 2 ^ 64 ≤ a * p / m := by
  obtain ⟨d0, e0, em, dl, al, a0, c1, c0, st⟩ := one_step hm ha h hq (by rw [bit_of hp hb]; rfl) hd rfl
  rw [u64wrap] at hl
  refine over_here hm st ?_
  split <;> omega

theorem over2 (hm : 0 < m) (ha : a < 2 ^ 64) (hp : p < 2 ^ 64) (h : Sz a p m (n + 1) q r) (hq : q < 9223372036854775808) (hb : (bits BinOp.and IntKind.u64 ((p : Int) / 2 ^ n) 1 == 1) = true)
    (hd : d = if (m : Int) ≤ r * 2 then q * 2 + 1 else q * 2) (he : e = if (m : Int) ≤ r * 2 then r * 2 - m else r * 2)
    (hl : d ≤ IntKind.u64.wrap (d + a / m)) (hr : (m : Int) ≤ e + a % m) (hz : (IntKind.u64.wrap (IntKind.u64.wrap (d + a / m) + 1) == 0) = true) : 2 ^ 64 ≤ a * p / m := by
  obtain ⟨d0, e0, em, dl, al, a0, c1, c0, st⟩ := one_step hm ha h hq (by rw [bit_of hp hb]; rfl) hd he
  have hz' := eq_of_beq hz
  rw [u64wrap, u64wrap] at hz'
  rw [u64wrap] at hl
  refine over_here hm st ?_
  rw [if_pos hr]; omega

theorem next1 (hm : 0 < m) (ha : a < 2 ^ 64) (hp : p < 2 ^ 64) (h : Sz a p m (n + 1) q r) (hq : q < 9223372036854775808) (hb : (bits BinOp.and IntKind.u64 ((p : Int) / 2 ^ n) 1 == 1) = true)
    (hd : d = if (m : Int) ≤ r * 2 then q * 2 + 1 else q * 2) (he : e = if (m : Int) ≤ r * 2 then r * 2 - m else r * 2)
    (hl : d ≤ IntKind.u64.wrap (d + a / m)) (hr : (m : Int) ≤ e + a % m) (hz : (IntKind.u64.wrap (IntKind.u64.wrap (d + a / m) + 1) == 0) = false) :
    Sz a p m n (IntKind.u64.wrap (IntKind.u64.wrap (d + a / m) + 1)) (e + a % m - m) := by
  obtain ⟨d0, e0, em, dl, al, a0, c1, c0, st⟩ := one_step hm ha h hq (by rw [bit_of hp hb]; rfl) hd he
  have hz' := ne_of_beq_false hz
  rw [u64wrap, u64wrap] at hz' ⊢
  rw [u64wrap] at hl
  rw [if_pos hr, if_pos hr] at st
  have e1 : ((d + (a : Int) / m) % 18446744073709551616 + 1) % 18446744073709551616 = d + (a : Int) / m + 1 := by omega
  rw [e1]
  exact ⟨by omega, by omega, by omega, by omega, st⟩

theorem next2 (hm : 0 < m) (ha : a < 2 ^ 64) (hp : p < 2 ^ 64) (h : Sz a p m (n + 1) q r) (hq : q < 9223372036854775808) (hb : (bits BinOp.and IntKind.u64 ((p : Int) / 2 ^ n) 1 == 1) = true)
    (hd : d = if (m : Int) ≤ r * 2 then q * 2 + 1 else q * 2) (he : e = if (m : Int) ≤ r * 2 then r * 2 - m else r * 2)
    (hl : d ≤ IntKind.u64.wrap (d + a / m)) (hr : e + a % m < (m : Int)) : Sz a p m n (IntKind.u64.wrap (d + a / m)) (e + a % m) := by
  obtain ⟨d0, e0, em, dl, al, a0, c1, c0, st⟩ := one_step hm ha h hq (by rw [bit_of hp hb]; rfl) hd he
  rw [u64wrap] at hl ⊢
  rw [if_neg (by omega), if_neg (by omega)] at st
  have e1 : (d + (a : Int) / m) % 18446744073709551616 = d + (a : Int) / m := by omega
  rw [e1]
  exact ⟨by omega, by omega, by omega, by omega, st⟩

theorem next0 (hp : p < 2 ^ 64) (h : Sz a p m (n + 1) q r) (hq : q < 9223372036854775808) (hb : (bits BinOp.and IntKind.u64 ((p : Int) / 2 ^ n) 1 == 1) = false)
    (hd : d = if (m : Int) ≤ r * 2 then q * 2 + 1 else q * 2) (he : e = if (m : Int) ≤ r * 2 then r * 2 - m else r * 2) : Sz a p m n d e := by
  rw [hd, he]; exact zero_step h hq (by rw [bit_of hp hb]; rfl)

theorem sz_start (hm : 0 < m) (hp : p < 2 ^ 64) : Sz a p m 64 0 0 := ⟨by omega, by omega, by omega, by omega, st_start hm hp⟩
theorem sz_end (hm : 0 < m) (h : Sz a p m 0 q r) : q = ((a * p / m : Nat) : Int) ∧ r = ((a * p % m : Nat) : Int) ∧ a * p / m < 2 ^ 64 := by
  obtain ⟨h1, h2⟩ := st_end hm h.st
  have := h.q0; have := h.r0; have := h.q64
  rw [h1, h2]
  omega
end

end Go.Proofs.Ytbdhbongaikphaa.CM
