/- Plain numbers for the reference's exact numbers: digits of thousands, the lowest first. -/
import Derived.IntWalk
namespace Go.Proofs.Ytbdhbongaikphaa.EM
set_option linter.unusedVariables false
set_option linter.unusedSimpArgs false

/-- The value of digits of thousands. -/
def val : List Int → Int
  | [] => 0
  | d :: ds => d + 1000 * val ds
/-- Each digit is one. -/
def Digs (ds : List Int) : Prop := ∀ d ∈ ds, 0 ≤ d ∧ d < 1000
/-- The last digit isn't 0. -/
def Norm (ds : List Int) : Prop := ∀ h : ds ≠ [], ds.getLast h ≠ 0

theorem Digs.nil : Digs [] := fun _ h => by cases h
theorem Digs.head {d : Int} {ds : List Int} (h : Digs (d :: ds)) : 0 ≤ d ∧ d < 1000 := h d (by simp)
theorem Digs.tail {d : Int} {ds : List Int} (h : Digs (d :: ds)) : Digs ds := fun x hx => h x (by simp [hx])
theorem Digs.snoc {ds : List Int} {d : Int} (h : Digs ds) (h0 : 0 ≤ d) (h1 : d < 1000) : Digs (ds ++ [d]) := fun x hx => by
  rcases List.mem_append.1 hx with hx | hx
  · exact h x hx
  · have : x = d := by simpa using hx
    omega
theorem Digs.init {ds : List Int} {d : Int} (h : Digs (ds ++ [d])) : Digs ds := fun x hx => h x (by simp [hx])
theorem Digs.last {ds : List Int} {d : Int} (h : Digs (ds ++ [d])) : 0 ≤ d ∧ d < 1000 := h d (by simp)
theorem val_nonneg {ds : List Int} (h : Digs ds) : 0 ≤ val ds := by
  induction ds with
  | nil => simp [val]
  | cons d ds ih => have := ih h.tail; have := h.head; simp only [val]; omega
theorem val_snoc (ds : List Int) (d : Int) : val (ds ++ [d]) = val ds + 1000 ^ ds.length * d := by
  induction ds with
  | nil => simp [val]
  | cons x ds ih =>
    simp only [List.cons_append, val, ih, List.length_cons, Int.pow_succ]
    rw [Int.mul_add, show (1000 : Int) ^ ds.length * 1000 * d = 1000 * (1000 ^ ds.length * d) by rw [Int.mul_comm ((1000 : Int) ^ ds.length) 1000, Int.mul_assoc]]
    omega
theorem pow_pos' (n : Nat) : (0 : Int) < 1000 ^ n := Int.pow_pos (by omega)
theorem val_lt {ds : List Int} (h : Digs ds) : val ds < 1000 ^ ds.length := by
  induction ds with
  | nil => simp [val]
  | cons d ds ih =>
    have := ih h.tail
    have := h.head
    simp only [val, List.length_cons, Int.pow_succ]
    omega
/-- A normal row of digits is as great as its length says. -/
theorem val_ge {ds : List Int} {d : Int} (h : Digs (ds ++ [d])) (hd : d ≠ 0) : 1000 ^ ds.length ≤ val (ds ++ [d]) := by
  rw [val_snoc]
  have h1 := val_nonneg h.init
  have h2 := h.last
  have h3 := pow_pos' ds.length
  have : (1000 : Int) ^ ds.length * 1 ≤ 1000 ^ ds.length * d := Int.mul_le_mul_of_nonneg_left (by omega) (by omega)
  omega
theorem snoc_or {α : Type} (l : List α) : l = [] ∨ ∃ l' x, l = l' ++ [x] := by
  rcases List.eq_nil_or_concat l with h | ⟨a, b, h⟩
  · exact .inl h
  · exact .inr ⟨a, b, by simpa using h⟩
theorem Norm.nil : Norm [] := fun h => absurd rfl h
theorem Norm.snoc {ds : List Int} {d : Int} (h : d ≠ 0) : Norm (ds ++ [d]) := fun _ => by simpa using h
theorem Norm.last {ds : List Int} {d : Int} (h : Norm (ds ++ [d])) : d ≠ 0 := by have := h (by simp); simpa using this
theorem norm_zero {ds : List Int} (h : Digs ds) (hn : Norm ds) (hv : val ds = 0) : ds = [] := by
  rcases snoc_or ds with rfl | ⟨ds', d, rfl⟩
  · rfl
  · have := val_ge h hn.last
    have := pow_pos' ds'.length
    omega
theorem pow_mono {a b : Nat} (h : a ≤ b) : (1000 : Int) ^ a ≤ 1000 ^ b := by
  obtain ⟨c, rfl⟩ := Nat.exists_eq_add_of_le h
  rw [Int.pow_add]
  have h1 := pow_pos' a
  have h2 := pow_pos' c
  have : (1000 : Int) ^ a * 1 ≤ 1000 ^ a * 1000 ^ c := Int.mul_le_mul_of_nonneg_left (by omega) (by omega)
  omega
theorem norm_len {ds : List Int} {k : Nat} (h : Digs ds) (hn : Norm ds) (hv : val ds < 1000 ^ k) : ds.length ≤ k := by
  rcases snoc_or ds with rfl | ⟨ds', d, rfl⟩
  · simp
  · have h1 := val_ge h hn.last
    rcases Nat.lt_or_ge k (ds'.length + 1) with h2 | h2
    · have := pow_mono (show k ≤ ds'.length by omega)
      omega
    · simpa using h2

/-- The digit at a place; 0 where there is none. -/
def dig (ds : List Int) (i : Nat) : Int := ds.getD i 0
theorem dig_range {ds : List Int} (h : Digs ds) (i : Nat) : 0 ≤ dig ds i ∧ dig ds i < 1000 := by
  unfold dig
  rw [List.getD_eq_getElem?_getD]
  cases hx : ds[i]? with
  | none => simp
  | some x => simpa using h x (List.mem_of_getElem? hx)
/-- The value of the digits below a place. -/
def low (ds : List Int) : Nat → Int
  | 0 => 0
  | n + 1 => low ds n + 1000 ^ n * dig ds n
theorem low_nil (n : Nat) : low [] n = 0 := by
  induction n with
  | zero => rfl
  | succ n ih => simp [low, ih, dig]
theorem dig_cons (d : Int) (ds : List Int) (n : Nat) : dig (d :: ds) (n + 1) = dig ds n := by simp [dig]
theorem low_cons (d : Int) (ds : List Int) (n : Nat) : low (d :: ds) (n + 1) = d + 1000 * low ds n := by
  induction n with
  | zero => simp [low, dig]
  | succ n ih =>
    rw [low, ih, dig_cons, low, Int.pow_succ, Int.mul_add, show (1000 : Int) ^ n * 1000 * dig ds n = 1000 * (1000 ^ n * dig ds n) by rw [Int.mul_comm ((1000 : Int) ^ n) 1000, Int.mul_assoc]]
    omega
theorem low_val (ds : List Int) (n : Nat) (h : ds.length ≤ n) : low ds n = val ds := by
  induction ds generalizing n with
  | nil => rw [low_nil]; rfl
  | cons d ds ih =>
    obtain ⟨m, rfl⟩ : ∃ m, n = m + 1 := ⟨n - 1, by simp at h; omega⟩
    rw [low_cons, ih m (by simpa using h)]; rfl
theorem low_nonneg {ds : List Int} (h : Digs ds) (n : Nat) : 0 ≤ low ds n := by
  induction n with
  | zero => simp [low]
  | succ n ih =>
    have := (dig_range h n).1
    have := Int.mul_nonneg (Int.le_of_lt (pow_pos' n)) this
    simp only [low]; omega
theorem low_lt {ds : List Int} (h : Digs ds) (n : Nat) : low ds n < 1000 ^ n := by
  induction n with
  | zero => simp [low]
  | succ n ih =>
    have h1 := (dig_range h n).2
    have h2 : (1000 : Int) ^ n * dig ds n ≤ 1000 ^ n * 999 := Int.mul_le_mul_of_nonneg_left (by omega) (Int.le_of_lt (pow_pos' n))
    simp only [low, Int.pow_succ]; omega

/-- The comparison from the top down: where all digits above n are the same. -/
def Same (a b : List Int) (n : Nat) : Prop := ∀ i, n ≤ i → dig a i = dig b i
theorem same_low {a b : List Int} {n m : Nat} (h : Same a b n) (hm : n ≤ m) : low a m - low b m = low a n - low b n := by
  induction m with
  | zero => obtain rfl : n = 0 := by omega
            rfl
  | succ m ih =>
    rcases Nat.lt_or_ge m n with h1 | h1
    · obtain rfl : n = m + 1 := by omega
      rfl
    · have e := ih h1
      have e2 := h m h1
      simp only [low, e2]; omega
theorem same_val {a b : List Int} {n : Nat} (h : Same a b n) : val a - val b = low a n - low b n := by
  have e1 := low_val a (a.length + b.length + n) (by omega)
  have e2 := low_val b (a.length + b.length + n) (by omega)
  have := same_low h (show n ≤ a.length + b.length + n by omega)
  omega
theorem same_top (a b : List Int) (n : Nat) (h : a.length ≤ n) (h2 : b.length ≤ n) : Same a b n := fun i hi => by
  unfold dig
  rw [List.getD_eq_getElem?_getD, List.getD_eq_getElem?_getD, List.getElem?_eq_none (by omega), List.getElem?_eq_none (by omega)]
theorem less_of {a b : List Int} {n : Nat} (ha : Digs a) (hb : Digs b) (h : Same a b (n + 1)) (hd : dig a n < dig b n) : val a < val b := by
  have h1 := same_val h
  have h2 := low_lt ha n
  have h3 := low_nonneg hb n
  have h4 : (1000 : Int) ^ n * (dig a n + 1) ≤ 1000 ^ n * dig b n := Int.mul_le_mul_of_nonneg_left (by omega) (Int.le_of_lt (pow_pos' n))
  rw [Int.mul_add, Int.mul_one] at h4
  simp only [low] at h1
  omega
theorem same_zero {a b : List Int} (h : Same a b 0) : val a = val b := by have := same_val h; simp [low] at this; omega

/-! ### The sum of sizes -/
/-- What was added below n, with what is over. -/
structure Sum (a b out : List Int) (over : Int) (n : Nat) : Prop where
  len : out.length = n
  digs : Digs out
  over0 : 0 ≤ over
  over1 : over ≤ 1
  eq : val out + 1000 ^ n * over = low a n + low b n
theorem Sum.start (a b : List Int) : Sum a b [] 0 0 := ⟨rfl, Digs.nil, by omega, by omega, by simp [val, low]⟩
theorem Sum.step {a b out : List Int} {over : Int} {n : Nat} (ha : Digs a) (hb : Digs b) (h : Sum a b out over n) :
    Sum a b (out ++ [(dig a n + dig b n + over) % 1000]) ((dig a n + dig b n + over) / 1000) (n + 1) := by
  have h1 := dig_range ha n
  have h2 := dig_range hb n
  have h3 := h.over0
  have h4 := h.over1
  have h5 := Int.mul_ediv_add_emod (dig a n + dig b n + over) 1000
  refine ⟨by simp [h.len], h.digs.snoc (by omega) (by omega), by omega, by omega, ?_⟩
  rw [val_snoc, h.len, Int.pow_succ]
  have h6 := h.eq
  simp only [low]
  have e2 : (1000 : Int) ^ n * (dig a n + dig b n + over) = 1000 ^ n * dig a n + 1000 ^ n * dig b n + 1000 ^ n * over := by rw [Int.mul_add, Int.mul_add]
  generalize dig a n + dig b n + over = t at *
  have e1 : (1000 : Int) ^ n * (t % 1000) + 1000 ^ n * 1000 * (t / 1000) = 1000 ^ n * t := by
    rw [Int.mul_assoc, ← Int.mul_add]; congr 1; omega
  omega

theorem Sum.done {a b out : List Int} {over : Int} {n : Nat} (ha : Digs a) (hb : Digs b) (hl : a.length ≤ n) (hl2 : b.length ≤ n) (h : Sum a b out over (n + 1)) : val out = val a + val b := by
  have h1 := h.eq
  have h2 := low_lt ha n
  have h3 := low_lt hb n
  rw [low_val a (n + 1) (by omega), low_val b (n + 1) (by omega)] at h1
  rw [low_val a n hl] at h2
  rw [low_val b n hl2] at h3
  have h4 := val_nonneg h.digs
  have h5 := h.over0
  have h6 := h.over1
  have h7 : (1000 : Int) ^ (n + 1) = 1000 ^ n * 1000 := Int.pow_succ ..
  have h8 := pow_pos' n
  rw [h7] at h1
  have h9 : over = 0 := by
    rcases Int.lt_or_le over 1 with c | c
    · omega
    · have : over = 1 := by omega
      subst this
      omega
  subst h9
  omega

/-! ### The difference of sizes -/
structure Sub (a b out : List Int) (borrow : Int) (n : Nat) : Prop where
  len : out.length = n
  digs : Digs out
  b0 : 0 ≤ borrow
  b1 : borrow ≤ 1
  eq : val out - 1000 ^ n * borrow = low a n - low b n
theorem Sub.start (a b : List Int) : Sub a b [] 0 0 := ⟨rfl, Digs.nil, by omega, by omega, by simp [val, low]⟩
theorem Sub.step {a b out : List Int} {borrow : Int} {n : Nat} (ha : Digs a) (hb : Digs b) (h : Sub a b out borrow n) :
    Sub a b (out ++ [(1000 + dig a n - dig b n - borrow) % 1000]) (1 - (1000 + dig a n - dig b n - borrow) / 1000) (n + 1) := by
  have h1 := dig_range ha n
  have h2 := dig_range hb n
  have h3 := h.b0
  have h4 := h.b1
  have h5 := Int.mul_ediv_add_emod (1000 + dig a n - dig b n - borrow) 1000
  refine ⟨by simp [h.len], h.digs.snoc (by omega) (by omega), by omega, by omega, ?_⟩
  rw [val_snoc, h.len, Int.pow_succ]
  have h6 := h.eq
  simp only [low]
  have e2 : (1000 : Int) ^ n * (1000 + dig a n - dig b n - borrow) = 1000 ^ n * 1000 + 1000 ^ n * dig a n - 1000 ^ n * dig b n - 1000 ^ n * borrow := by rw [Int.mul_sub, Int.mul_sub, Int.mul_add]
  generalize 1000 + dig a n - dig b n - borrow = t at *
  have e1 : (1000 : Int) ^ n * (t % 1000) + 1000 ^ n * 1000 * (t / 1000) = 1000 ^ n * t := by
    rw [Int.mul_assoc, ← Int.mul_add]; congr 1; omega
  have e3 : (1000 : Int) ^ n * 1000 * (1 - t / 1000) = 1000 ^ n * 1000 - 1000 ^ n * 1000 * (t / 1000) := by rw [Int.mul_sub, Int.mul_one]
  omega
theorem low_past {b : List Int} {n m : Nat} (h : b.length ≤ n) (hm : n ≤ m) : low b m = low b n := by rw [low_val b m (by omega), low_val b n h]
theorem Sub.done {a b out : List Int} {borrow : Int} (ha : Digs a) (hb : Digs b) (hl : b.length ≤ a.length) (hlt : val b ≤ val a) (h : Sub a b out borrow a.length) : val out = val a - val b := by
  have h1 := h.eq
  rw [low_val a _ (Nat.le_refl _), low_val b _ hl] at h1
  have h2 := val_lt h.digs
  rw [h.len] at h2
  have h3 := h.b0
  have h4 := h.b1
  have h5 : borrow = 0 := by
    rcases Int.lt_or_le borrow 1 with c | c
    · omega
    · have : borrow = 1 := by omega
      subst this
      omega
  subst h5
  omega
theorem len_of_le {a b : List Int} (ha : Digs a) (hb : Digs b) (hn : Norm b) (h : val b ≤ val a) : b.length ≤ a.length := norm_len hb hn (by have := val_lt ha; omega)

/-- The sign of a number. -/
def sgn (n : Int) : Int := if n < 0 then -1 else if n = 0 then 0 else 1
/-- Digits that tell a number's size. -/
structure Tells (ds : List Int) (n : Int) : Prop where
  digs : Digs ds
  norm : Norm ds
  val : val ds = n.natAbs
theorem Tells.zero : Tells [] 0 := ⟨Digs.nil, Norm.nil, rfl⟩
theorem Tells.nil_iff {ds : List Int} {n : Int} (h : Tells ds n) : ds = [] ↔ n = 0 := by
  constructor
  · rintro rfl; have := h.val; simp [EM.val] at this; omega
  · rintro rfl; exact norm_zero h.digs h.norm (by rw [h.val]; rfl)
theorem Tells.neg {ds : List Int} {n : Int} (h : Tells ds n) : Tells ds (-n) := ⟨h.digs, h.norm, by rw [h.val]; omega⟩
theorem sgn_neg (n : Int) : sgn (-n) = -sgn n := by unfold sgn; repeat' split <;> omega
theorem Tells.len {ds : List Int} {n : Int} {k : Nat} (h : Tells ds n) (hn : (n.natAbs : Int) < 1000 ^ k) : ds.length ≤ k := norm_len h.digs h.norm (by rw [h.val]; exact hn)

/-! ### The digits of an amount -/
/-- What Of has told so far of n: m is left. -/
structure OfS (n m sg : Int) (out : List Int) : Prop where
  digs : Digs out
  eq : val out + 1000 ^ out.length * m.natAbs = n.natAbs
  pos : 0 ≤ n → 0 ≤ m
  neg : n ≤ 0 → m ≤ 0
  sp : 0 < n → sg = 1
  sn : n < 0 → out ≠ [] → sg = -1
  len : out.length ≤ 7
  lt : (m.natAbs : Int) < 1000 ^ (7 - out.length)
theorem OfS.start {n : Int} (h : (n.natAbs : Int) ≤ 9223372036854775808) : OfS n n 1 [] :=
  ⟨Digs.nil, by simp [val], fun h => h, fun h => h, fun _ => rfl, fun _ h => absurd rfl h, by simp, by simp; omega⟩
theorem OfS.step {n m sg sg' x q : Int} {out : List Int} (h : OfS n m sg out) (hm : m ≠ 0) (hx : x = m.natAbs % 1000) (hq : (q.natAbs : Int) = m.natAbs / 1000) (hp : 0 ≤ m → 0 ≤ q) (hn : m ≤ 0 → q ≤ 0)
    (h1 : 0 < m → sg' = sg) (h2 : m < 0 → sg' = -1) : OfS n q sg' (out ++ [x]) := by
  obtain ⟨d, eq, pos, neg, sp, sn, len, lt⟩ := h
  have hlt : out.length < 7 := by
    rcases Nat.lt_or_ge out.length 7 with c | c
    · exact c
    · have : out.length = 7 := by omega
      rw [this] at lt; simp at lt; omega
  have e1 := Int.mul_ediv_add_emod (m.natAbs : Int) 1000
  have e2 : (1000 : Int) ^ (7 - out.length) = 1000 ^ (7 - (out.length + 1)) * 1000 := by rw [← Int.pow_succ]; congr 1; omega
  refine ⟨d.snoc (by omega) (by omega), ?_, fun h => hp (pos h), fun h => hn (neg h), fun h => ?_, fun h _ => ?_, by simp; omega, ?_⟩
  · rw [val_snoc, List.length_append, List.length_singleton, Int.pow_succ, hq, hx, Int.mul_assoc, Int.add_assoc, ← Int.mul_add]
    rw [show (m.natAbs : Int) % 1000 + 1000 * (m.natAbs / 1000) = m.natAbs by omega]; exact eq
  · have := pos (by omega); rw [h1 (by omega)]; exact sp h
  · have := neg (by omega); exact h2 (by omega)
  · rw [List.length_append, List.length_singleton, hq]
    omega
theorem OfS.done {n sg : Int} {out : List Int} (h : OfS n 0 sg out) : val out = n.natAbs ∧ (n ≠ 0 → sg = sgn n) := by
  have h1 := h.eq
  simp at h1
  refine ⟨h1, fun hn => ?_⟩
  unfold sgn
  rcases Int.lt_or_le n 0 with c | c
  · rw [if_pos c]; exact h.sn c (by rintro rfl; simp [val] at h1; omega)
  · rw [if_neg (by omega), if_neg hn]; exact h.sp (by omega)

/-! ### A number out of its digits, from the top down -/
theorem drop_dig {ds : List Int} {i : Nat} (h : i < ds.length) : ds.drop i = dig ds i :: ds.drop (i + 1) := by
  rw [List.drop_eq_getElem_cons h]; simp [dig, List.getD_eq_getElem?_getD, List.getElem?_eq_getElem h]
theorem val_drop {ds : List Int} {i : Nat} (h : i < ds.length) : val (ds.drop i) = dig ds i + 1000 * val (ds.drop (i + 1)) := by rw [drop_dig h]; rfl
theorem digs_drop {ds : List Int} (h : Digs ds) (i : Nat) : Digs (ds.drop i) := fun d hd => h d (List.mem_of_mem_drop hd)
theorem val_drop_le {ds : List Int} (h : Digs ds) (i : Nat) : val (ds.drop i) ≤ val ds := by
  induction i with
  | zero => simp
  | succ i ih =>
    rcases Nat.lt_or_ge i ds.length with c | c
    · have := val_drop c
      have := dig_range h i
      have := val_nonneg (digs_drop h (i + 1))
      omega
    · rw [List.drop_eq_nil_of_le (by omega)]
      have := val_nonneg h
      simp [val]; omega
end Go.Proofs.Ytbdhbongaikphaa.EM
