/- Plain rows of prices: in order of days; where a day stands; what is set; what is told. -/
namespace Go.Proofs.Ytbdhbongaikphaa.BK
set_option linter.unusedVariables false
set_option linter.unusedSimpArgs false

/-- A row of prices: of each its day, and itself. -/
abbrev PRow := List (Int × Int)
def Asc (r : PRow) : Prop := r.Pairwise (fun p q => p.1 < q.1)
/-- How many are of a day ahead of this. -/
def pos (r : PRow) (d : Int) : Nat := r.countP (fun p => decide (p.1 < d))
def dayAt (r : PRow) (i : Nat) : Int := (r.getD i (0, 0)).1
def costAt (r : PRow) (i : Nat) : Int := (r.getD i (0, 0)).2
def isAt (r : PRow) (d : Int) : Bool := decide (pos r d < r.length) && decide (dayAt r (pos r d) = d)
def put (r : PRow) (d n : Int) : PRow := r.take (pos r d) ++ [(d, n)] ++ r.drop (pos r d)
/-- The place of a day's price. -/
def told (r : PRow) (d : Int) : Nat := if isAt r d = true then pos r d else pos r d - 1
def priceAt (r : PRow) (d : Int) : Int := costAt r (told r d)

theorem pos_le (r : PRow) (d : Int) : pos r d ≤ r.length := List.countP_le_length
theorem Asc.tail {p : Int × Int} {r : PRow} (h : Asc (p :: r)) : Asc r := (List.pairwise_cons.1 h).2
theorem pos_iff {r : PRow} (h : Asc r) (d : Int) : ∀ i, i < r.length → (dayAt r i < d ↔ i < pos r d) := by
  induction r with
  | nil => intro i hi; simp at hi
  | cons p r ih =>
    intro i hi
    have h1 := (List.pairwise_cons.1 h).1
    unfold pos
    rw [List.countP_cons]
    cases i with
    | zero =>
      simp only [dayAt, List.getD_cons_zero]
      by_cases c : p.1 < d
      · simp [c]
      · simp only [c, decide_false, Bool.false_eq_true, if_false, Nat.add_zero, false_iff, Nat.not_lt, Nat.le_zero_eq]
        rw [List.countP_eq_zero]
        intro q hq
        have := h1 q hq
        simp
        omega
    | succ i =>
      have hi' : i < r.length := by simpa using hi
      have e := ih h.tail i hi'
      have e2 : dayAt (p :: r) (i + 1) = dayAt r i := by simp [dayAt]
      rw [e2, e]
      by_cases c : p.1 < d
      · simp [c, pos]
      · simp only [c, decide_false, Bool.false_eq_true, if_false, Nat.add_zero]
        have hz : pos r d = 0 := by
          unfold pos
          rw [List.countP_eq_zero]
          intro q hq
          have := h1 q hq
          simp
          omega
        unfold pos at hz
        rw [hz]
        unfold pos
        rw [hz]
        omega
theorem get_mem {r : PRow} {i : Nat} (h : i < r.length) : (dayAt r i, costAt r i) ∈ r := by
  unfold dayAt costAt
  rw [List.getD_eq_getElem?_getD, List.getElem?_eq_getElem h]
  exact List.getElem_mem h
theorem mem_get {r : PRow} {p : Int × Int} (h : p ∈ r) : ∃ i, i < r.length ∧ p = (dayAt r i, costAt r i) := by
  obtain ⟨i, hi, e⟩ := List.getElem_of_mem h
  refine ⟨i, hi, ?_⟩
  unfold dayAt costAt
  rw [List.getD_eq_getElem?_getD, List.getElem?_eq_getElem hi]
  exact e.symm
theorem isAt_iff {r : PRow} (h : Asc r) (d : Int) : isAt r d = true ↔ ∃ n, (d, n) ∈ r := by
  unfold isAt
  simp only [Bool.and_eq_true, decide_eq_true_eq]
  constructor
  · rintro ⟨h1, h2⟩
    exact ⟨_, by have := get_mem h1; rwa [h2] at this⟩
  · rintro ⟨n, hn⟩
    obtain ⟨i, hi, e⟩ := mem_get hn
    have e1 : dayAt r i = d := (Prod.mk.inj e).1.symm
    have h1 := pos_iff h d i hi
    have h2 : pos r d ≤ i := by omega
    refine ⟨by omega, ?_⟩
    have h3 := pos_iff h d (pos r d) (by omega)
    have h4 : d ≤ dayAt r (pos r d) := by omega
    have h5 := pos_iff h (d + 1) i hi
    have h6 := pos_iff h (d + 1) (pos r d) (by omega)
    omega
theorem mem_put (r : PRow) (d n : Int) (p : Int × Int) : p ∈ put r d n ↔ p = (d, n) ∨ p ∈ r := by
  unfold put
  simp only [List.mem_append, List.mem_singleton]
  have : p ∈ r ↔ p ∈ r.take (pos r d) ∨ p ∈ r.drop (pos r d) := by rw [← List.mem_append, List.take_append_drop]
  rw [this]
  constructor
  · rintro ((h | h) | h)
    · exact .inr (.inl h)
    · exact .inl h
    · exact .inr (.inr h)
  · rintro (h | h | h)
    · exact .inl (.inr h)
    · exact .inl (.inl h)
    · exact .inr h
theorem put_len (r : PRow) (d n : Int) : (put r d n).length = r.length + 1 := by
  have := pos_le r d
  simp [put]
  omega
theorem mem_take_day {r : PRow} (h : Asc r) {d : Int} {p : Int × Int} (hp : p ∈ r.take (pos r d)) : p.1 < d := by
  obtain ⟨i, hi, e⟩ := List.getElem_of_mem hp
  rw [List.length_take] at hi
  have := (pos_iff h d i (by omega)).2 (by omega)
  unfold dayAt at this
  rw [List.getD_eq_getElem?_getD, List.getElem?_eq_getElem (by omega)] at this
  rw [← e, List.getElem_take]
  exact this
theorem mem_drop_day {r : PRow} (h : Asc r) {d : Int} {p : Int × Int} (hp : p ∈ r.drop (pos r d)) : d ≤ p.1 := by
  obtain ⟨i, hi, e⟩ := List.getElem_of_mem hp
  rw [List.length_drop] at hi
  have := (pos_iff h d (pos r d + i) (by omega))
  unfold dayAt at this
  rw [List.getD_eq_getElem?_getD, List.getElem?_eq_getElem (by omega)] at this
  rw [← e, List.getElem_drop]
  have e2 : ¬ (pos r d + i < pos r d) := by omega
  have := mt this.1 e2
  simp at this
  exact this
theorem put_asc {r : PRow} (h : Asc r) {d n : Int} (hd : isAt r d = false) : Asc (put r d n) := by
  unfold put Asc
  have hdr : ∀ p ∈ r.drop (pos r d), d < p.1 := fun p hp => by
    have h1 := mem_drop_day h hp
    have h2 : p.1 ≠ d := fun e => by
      have : isAt r d = true := (isAt_iff h d).2 ⟨p.2, by rw [← e]; exact List.mem_of_mem_drop hp⟩
      rw [hd] at this
      cases this
    omega
  rw [List.append_assoc, List.pairwise_append]
  refine ⟨h.sublist (List.take_sublist _ _), ?_, fun a ha b hb => ?_⟩
  · rw [List.singleton_append, List.pairwise_cons]
    exact ⟨fun p hp => hdr p hp, h.sublist (List.drop_sublist _ _)⟩
  · have h1 := mem_take_day h ha
    rw [List.singleton_append, List.mem_cons] at hb
    rcases hb with rfl | hb
    · exact h1
    · have := hdr b hb; omega
/-- The price that is told is that of the greatest day through this one. -/
structure Tells (r : PRow) (d : Int) (p : Int × Int) : Prop where
  mem : p ∈ r
  le : p.1 ≤ d
  top : ∀ q ∈ r, q.1 ≤ d → q.1 ≤ p.1
theorem asc_same {r : PRow} (h : Asc r) {p q : Int × Int} (hp : p ∈ r) (hq : q ∈ r) (e : p.1 = q.1) : p = q := by
  obtain ⟨i, hi, rfl⟩ := mem_get hp
  obtain ⟨k, hk, rfl⟩ := mem_get hq
  have h1 := pos_iff h (dayAt r i) i hi
  have h2 := pos_iff h (dayAt r i) k hk
  have h3 := pos_iff h (dayAt r i + 1) i hi
  have h4 := pos_iff h (dayAt r i + 1) k hk
  simp only at e
  have : i = k := by
    rcases Nat.lt_trichotomy i k with c | c | c
    · have := List.pairwise_iff_getElem.1 h i k hi hk c
      unfold dayAt at e
      rw [List.getD_eq_getElem?_getD, List.getElem?_eq_getElem hi, List.getD_eq_getElem?_getD, List.getElem?_eq_getElem hk] at e
      simp at e
      omega
    · exact c
    · have := List.pairwise_iff_getElem.1 h k i hk hi c
      unfold dayAt at e
      rw [List.getD_eq_getElem?_getD, List.getElem?_eq_getElem hi, List.getD_eq_getElem?_getD, List.getElem?_eq_getElem hk] at e
      simp at e
      omega
  rw [this]
theorem Tells.eq {r : PRow} (h : Asc r) {d : Int} {p q : Int × Int} (hp : Tells r d p) (hq : Tells r d q) : p = q :=
  asc_same h hp.mem hq.mem (by have := hp.top q hq.mem hq.le; have := hq.top p hp.mem hp.le; omega)
theorem told_lt {r : PRow} (h : Asc r) {d : Int} (h0 : ∃ p ∈ r, p.1 ≤ d) : told r d < r.length ∧ Tells r d (dayAt r (told r d), costAt r (told r d)) := by
  obtain ⟨p0, hp0, hd0⟩ := h0
  obtain ⟨i0, hi0, e0⟩ := mem_get hp0
  have hpl := pos_le r d
  have top : ∀ k, k < r.length → ((∀ q ∈ r, q.1 ≤ d → q.1 ≤ dayAt r k) ↔ ∀ i, i < r.length → dayAt r i ≤ d → dayAt r i ≤ dayAt r k) := fun k hk => by
    constructor
    · intro f i hi hd; exact f _ (get_mem hi) hd
    · intro f q hq hd
      obtain ⟨i, hi, rfl⟩ := mem_get hq
      exact f i hi hd
  unfold told
  cases c : isAt r d
  · rw [if_neg (by simp)]
    have hne : ∀ i, i < r.length → dayAt r i ≠ d := fun i hi e => by
      have : isAt r d = true := (isAt_iff h d).2 ⟨_, by rw [← e]; exact get_mem hi⟩
      rw [c] at this; cases this
    have h1 : 0 < pos r d := by
      have := (pos_iff h d i0 hi0).1 (by have := hne i0 hi0; rw [e0] at hd0; simp only at hd0; omega)
      omega
    have hlt : pos r d - 1 < r.length := by omega
    refine ⟨hlt, get_mem hlt, ?_, ?_⟩
    · have := (pos_iff h d (pos r d - 1) hlt).2 (by omega)
      simp only; omega
    · refine (top _ hlt).2 fun i hi hd => ?_
      have h2 := (pos_iff h d i hi).1 (by have := hne i hi; omega)
      have h3 := pos_iff h (dayAt r i) (pos r d - 1) hlt
      have h4 := pos_iff h (dayAt r i) i hi
      omega
  · rw [if_pos rfl]
    unfold isAt at c
    simp only [Bool.and_eq_true, decide_eq_true_eq] at c
    refine ⟨c.1, get_mem c.1, by simp only; omega, ?_⟩
    intro q hq hd
    simp only; omega
theorem price_is {r : PRow} (h : Asc r) {d : Int} {p : Int × Int} (hp : Tells r d p) : priceAt r d = p.2 := by
  have := (told_lt h ⟨p, hp.mem, hp.le⟩).2
  rw [← Tells.eq h this hp]
  rfl
theorem price_tells {r : PRow} (h : Asc r) {d : Int} (h0 : ∃ p ∈ r, p.1 ≤ d) : ∃ p, Tells r d p ∧ priceAt r d = p.2 := ⟨_, (told_lt h h0).2, rfl⟩
/-- A price that is set: nothing ahead of its day turns; at its day it is told; behind, it or what was told. -/
theorem put_before {r : PRow} (h : Asc r) {d n day : Int} (hd : isAt r d = false) (h0 : ∃ p ∈ r, p.1 ≤ day) (hl : day < d) : priceAt (put r d n) day = priceAt r day := by
  obtain ⟨p, hp, e⟩ := price_tells h h0
  rw [e]
  refine price_is (put_asc h hd) ⟨(mem_put _ _ _ _).2 (.inr hp.mem), hp.le, fun q hq hle => ?_⟩
  rcases (mem_put _ _ _ _).1 hq with rfl | hq
  · simp only at hle; omega
  · exact hp.top q hq hle
theorem put_at {r : PRow} (h : Asc r) {d n : Int} (hd : isAt r d = false) : priceAt (put r d n) d = n := by
  refine price_is (p := (d, n)) (put_asc h hd) ⟨(mem_put _ _ _ _).2 (.inl rfl), Int.le_refl _, fun q hq hle => hle⟩
theorem put_behind {r : PRow} (h : Asc r) {d n day : Int} (hd : isAt r d = false) (h0 : ∃ p ∈ r, p.1 ≤ day) (hl : d ≤ day) : priceAt (put r d n) day = n ∨ priceAt (put r d n) day = priceAt r day := by
  obtain ⟨p, hp, e⟩ := price_tells h h0
  rcases Int.lt_or_le p.1 d with c | c
  · refine .inl (price_is (p := (d, n)) (put_asc h hd) ⟨(mem_put _ _ _ _).2 (.inl rfl), hl, fun q hq hle => ?_⟩)
    rcases (mem_put _ _ _ _).1 hq with rfl | hq
    · exact Int.le_refl _
    · have := hp.top q hq hle; simp only; omega
  · refine .inr ?_
    rw [e]
    refine price_is (put_asc h hd) ⟨(mem_put _ _ _ _).2 (.inr hp.mem), hp.le, fun q hq hle => ?_⟩
    rcases (mem_put _ _ _ _).1 hq with rfl | hq
    · exact c
    · exact hp.top q hq hle
/-- Rows in order that hold the same are the same. -/
theorem asc_eq {r s : PRow} (hr : Asc r) (hs : Asc s) (h : ∀ p, p ∈ r ↔ p ∈ s) : r = s := by
  induction r generalizing s with
  | nil =>
    cases s with
    | nil => rfl
    | cons q s => exact absurd ((h q).2 (List.mem_cons_self)) (by simp)
  | cons p r ih =>
    cases s with
    | nil => exact absurd ((h p).1 (List.mem_cons_self)) (by simp)
    | cons q s =>
      have h1 := (List.pairwise_cons.1 hr).1
      have h2 := (List.pairwise_cons.1 hs).1
      have e : p = q := by
        rcases List.mem_cons.1 ((h p).1 List.mem_cons_self) with e | e
        · exact e
        · rcases List.mem_cons.1 ((h q).2 List.mem_cons_self) with e2 | e2
          · exact e2.symm
          · have := h1 q e2; have := h2 p e; omega
      subst e
      congr 1
      refine ih hr.tail hs.tail fun x => ?_
      have hx := h x
      constructor
      · intro m
        rcases List.mem_cons.1 (hx.1 (List.mem_cons_of_mem _ m)) with e | e
        · subst e; have := h1 x m; omega
        · exact e
      · intro m
        rcases List.mem_cons.1 (hx.2 (List.mem_cons_of_mem _ m)) with e | e
        · subst e; have := h2 x m; omega
        · exact e
end Go.Proofs.Ytbdhbongaikphaa.BK
