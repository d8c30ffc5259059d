/- Plain prices as they were set (the reference), and rows in order of days. -/
import Derived.Test.YtbdhbongaikphaaBookMath
namespace Go.Proofs.Ytbdhbongaikphaa.BK
set_option linter.unusedVariables false
set_option linter.unusedSimpArgs false

/-- A price that was set: of which item, from which day on, and itself. -/
structure Pz where
  item : Int
  day : Int
  n : Int
deriving DecidableEq
def rstep (item day : Int) (s : Int × Int) (x : Pz) : Int × Int := if x.item = item ∧ x.day ≤ day ∧ s.1 < x.day then (x.day, x.n) else s
def rfold (p0 : Int) (L : List Pz) (item day : Int) : Int × Int := L.foldl (rstep item day) (0, p0)
def many (L : List Pz) (item : Int) : Nat := L.countP (fun x => decide (x.item = item))
def twice (L : List Pz) (item day : Int) : Bool := L.any (fun x => decide (x.item = item) && decide (x.day = day))
structure Same (row : PRow) (p0 : Int) (L : List Pz) (item : Int) : Prop where
  asc : Asc row
  mem : ∀ p, p ∈ row ↔ p = (0, p0) ∨ ∃ x ∈ L, x.item = item ∧ x.day = p.1 ∧ x.n = p.2
  days : ∀ x ∈ L, 1 ≤ x.day
  len : row.length = many L item + 1
theorem same_start (p0 item : Int) : Same [(0, p0)] p0 [] item := ⟨by simp [Asc], by simp, by simp, by simp [many]⟩
theorem rfold_is (p0 : Int) (item day : Int) (L : List Pz) : ∀ s : Int × Int,
    let t := L.foldl (rstep item day) s
    (t = s ∨ ∃ x ∈ L, x.item = item ∧ x.day ≤ day ∧ x.day = t.1 ∧ x.n = t.2) ∧ s.1 ≤ t.1 ∧ ∀ x ∈ L, x.item = item → x.day ≤ day → x.day ≤ t.1 := by
  induction L with
  | nil => intro s; simp
  | cons x L ih =>
    intro s
    have h := ih (rstep item day s x)
    simp only [List.foldl_cons]
    obtain ⟨h1, h2, h3⟩ := h
    by_cases c : x.item = item ∧ x.day ≤ day ∧ s.1 < x.day
    · have e : rstep item day s x = (x.day, x.n) := by unfold rstep; rw [if_pos c]
      rw [e] at h1 h2 h3 ⊢
      refine ⟨?_, by simp only at h2; omega, ?_⟩
      · rcases h1 with h1 | ⟨y, hy, r⟩
        · exact .inr ⟨x, List.mem_cons_self, c.1, c.2.1, by rw [h1], by rw [h1]⟩
        · exact .inr ⟨y, List.mem_cons_of_mem _ hy, r⟩
      · intro y hy hi hd
        rcases List.mem_cons.1 hy with rfl | hy
        · exact h2
        · exact h3 y hy hi hd
    · have e : rstep item day s x = s := by unfold rstep; rw [if_neg c]
      rw [e] at h1 h2 h3 ⊢
      refine ⟨?_, h2, ?_⟩
      · rcases h1 with h1 | ⟨y, hy, r⟩
        · exact .inl h1
        · exact .inr ⟨y, List.mem_cons_of_mem _ hy, r⟩
      · intro y hy hi hd
        rcases List.mem_cons.1 hy with rfl | hy
        · by_cases c2 : s.1 < y.day
          · exact absurd ⟨hi, hd, c2⟩ c
          · omega
        · exact h3 y hy hi hd
theorem Same.price {row : PRow} {p0 : Int} {L : List Pz} {item : Int} (h : Same row p0 L item) {day : Int} (hd : 0 ≤ day) : (rfold p0 L item day).2 = priceAt row day := by
  obtain ⟨h1, h2, h3⟩ := rfold_is p0 item day L (0, p0)
  unfold rfold
  generalize L.foldl (rstep item day) (0, p0) = t at *
  refine (price_is h.asc (p := t) ⟨?_, ?_, ?_⟩).symm
  · rw [h.mem]
    rcases h1 with h1 | ⟨x, hx, a, b, c, d⟩
    · exact .inl h1
    · exact .inr ⟨x, hx, a, c, d⟩
  · rcases h1 with h1 | ⟨x, hx, a, b, c, d⟩
    · rw [h1]; exact hd
    · omega
  · intro q hq hle
    rcases (h.mem q).1 hq with rfl | ⟨x, hx, a, b, c⟩
    · exact h2
    · rw [← b]; exact h3 x hx a (by omega)
theorem Same.twice {row : PRow} {p0 : Int} {L : List Pz} {item : Int} (h : Same row p0 L item) {day : Int} (hd : 1 ≤ day) : twice L item day = isAt row day := by
  rw [Bool.eq_iff_iff, isAt_iff h.asc]
  unfold BK.twice
  rw [List.any_eq_true]
  constructor
  · rintro ⟨x, hx, e⟩
    simp only [Bool.and_eq_true, decide_eq_true_eq] at e
    exact ⟨x.n, (h.mem _).2 (.inr ⟨x, hx, e.1, e.2, rfl⟩)⟩
  · rintro ⟨n, hn⟩
    rcases (h.mem _).1 hn with e | ⟨x, hx, a, b, c⟩
    · have := (Prod.mk.inj e).1; omega
    · exact ⟨x, hx, by simp [a, b]⟩
theorem Same.put {row : PRow} {p0 : Int} {L : List Pz} {item : Int} (h : Same row p0 L item) {day n : Int} (hd : 1 ≤ day) (hi : isAt row day = false) : Same (put row day n) p0 (L ++ [⟨item, day, n⟩]) item := by
  refine ⟨put_asc h.asc hi, fun p => ?_, fun x hx => ?_, ?_⟩
  · rw [mem_put, h.mem]
    constructor
    · rintro (rfl | e | ⟨x, hx, r⟩)
      · exact .inr ⟨⟨item, day, n⟩, by simp, rfl, rfl, rfl⟩
      · exact .inl e
      · exact .inr ⟨x, List.mem_append_left _ hx, r⟩
    · rintro (e | ⟨x, hx, a, b, c⟩)
      · exact .inr (.inl e)
      · rcases List.mem_append.1 hx with hx | hx
        · exact .inr (.inr ⟨x, hx, a, b, c⟩)
        · rw [List.mem_singleton] at hx
          subst hx
          exact .inl (by cases p; simp only at b c; rw [b, c])
  · rcases List.mem_append.1 hx with hx | hx
    · exact h.days x hx
    · rw [List.mem_singleton] at hx; subst hx; exact hd
  · rw [put_len, h.len]; unfold many; rw [List.countP_append]; simp
theorem Same.other {row : PRow} {p0 : Int} {L : List Pz} {item i2 : Int} (h : Same row p0 L item) {day n : Int} (hd : 1 ≤ day) (hi : i2 ≠ item) : Same row p0 (L ++ [⟨i2, day, n⟩]) item := by
  refine ⟨h.asc, fun p => ?_, fun x hx => ?_, ?_⟩
  · rw [h.mem]
    constructor
    · rintro (e | ⟨x, hx, r⟩)
      · exact .inl e
      · exact .inr ⟨x, List.mem_append_left _ hx, r⟩
    · rintro (e | ⟨x, hx, a, b, c⟩)
      · exact .inl e
      · rcases List.mem_append.1 hx with hx | hx
        · exact .inr ⟨x, hx, a, b, c⟩
        · rw [List.mem_singleton] at hx
          subst hx
          exact absurd a hi
  · rcases List.mem_append.1 hx with hx | hx
    · exact h.days x hx
    · rw [List.mem_singleton] at hx; subst hx; exact hd
  · rw [h.len]; unfold many; rw [List.countP_append]; simp [hi]
end Go.Proofs.Ytbdhbongaikphaa.BK
