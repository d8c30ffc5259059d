/- Lines turned about: the same obligations. -/
import Derived.Test.YtbdhbongaikphaaDutyMath
namespace Go.Proofs.Ytbdhbongaikphaa.DU
open Go.Proofs.Ytbdhbongaikphaa.Cents
set_option linter.unusedVariables false

section
variable {f F B : Nat → LnD} {i j k n : Nat}
theorem grp_same (h : (f i).key = (f k).key) (n : Nat) : grp f n i = grp f n k := by
  unfold grp
  rw [h]
theorem sum_rev (l : List Int) : l.reverse.sum = l.sum := by
  induction l with
  | nil => rfl
  | cons x l ih => rw [List.reverse_cons, List.sum_append, ih]; simp; omega
theorem duAt_sum (f : Nat → LnD) (n i : Nat) : (duAt f n i).alone = ((grp f n i).map (fun k => (f k).alone)).sum ∧ (duAt f n i).units = ((grp f n i).map (fun k => (f k).units)).sum := by
  induction n with
  | zero => exact ⟨rfl, rfl⟩
  | succ n ih =>
    rw [duAt_succ, grp_succ]
    by_cases c : (f n).key = (f i).key
    · rw [if_pos c, if_pos c, List.map_append, List.map_append, List.sum_append, List.sum_append, ← ih.1, ← ih.2]
      simp [joinD]
    · rw [if_neg c, if_neg c, List.append_nil]; exact ih
theorem duAt_ends (f : Nat → LnD) (n i : Nat) : ((duAt f n i).first = (f i).first ∨ ∃ k ∈ grp f n i, (duAt f n i).first = (f k).first) ∧ ((duAt f n i).last = (f i).last ∨ ∃ k ∈ grp f n i, (duAt f n i).last = (f k).last) := by
  induction n with
  | zero => exact ⟨.inl rfl, .inl rfl⟩
  | succ n ih =>
    rw [duAt_succ, grp_succ]
    by_cases c : (f n).key = (f i).key
    · rw [if_pos c, if_pos c]
      refine ⟨?_, ?_⟩
      · show min _ _ = _ ∨ ∃ k ∈ _, min _ _ = _
        rcases Int.le_total (duAt f n i).first (f n).first with h | h
        · rw [Int.min_eq_left h]
          rcases ih.1 with q | ⟨k, hk, q⟩
          · exact .inl q
          · exact .inr ⟨k, List.mem_append_left _ hk, q⟩
        · rw [Int.min_eq_right h]
          exact .inr ⟨n, by simp, rfl⟩
      · show max _ _ = _ ∨ ∃ k ∈ _, max _ _ = _
        rcases Int.le_total (duAt f n i).last (f n).last with h | h
        · rw [Int.max_eq_right h]
          exact .inr ⟨n, by simp, rfl⟩
        · rw [Int.max_eq_left h]
          rcases ih.2 with q | ⟨k, hk, q⟩
          · exact .inl q
          · exact .inr ⟨k, List.mem_append_left _ hk, q⟩
    · rw [if_neg c, if_neg c, List.append_nil]; exact ih
theorem duAt_min (hi : i < n) : ∃ k ∈ grp f n i, (duAt f n i).first = (f k).first := by
  rcases (duAt_ends f n i).1 with h | h
  · exact ⟨i, mem_grp.2 ⟨hi, rfl⟩, h⟩
  · exact h
theorem duAt_max (hi : i < n) : ∃ k ∈ grp f n i, (duAt f n i).last = (f k).last := by
  rcases (duAt_ends f n i).2 with h | h
  · exact ⟨i, mem_grp.2 ⟨hi, rfl⟩, h⟩
  · exact h
structure Mirror (F B : Nat → LnD) (n : Nat) : Prop where
  alone : ∀ i, i < n → (B i).alone = (F (n - 1 - i)).alone
  units : ∀ i, i < n → (B i).units = (F (n - 1 - i)).units
  first : ∀ i, i < n → (B i).first = (F (n - 1 - i)).first
  last : ∀ i, i < n → (B i).last = (F (n - 1 - i)).last
  e : ∀ i, i < n → (B i).e = (F (n - 1 - i)).e
  key : ∀ i k, i < n → k < n → ((B i).key = (B k).key ↔ (F (n - 1 - i)).key = (F (n - 1 - k)).key)
theorem turn2 (hi : i < n) : n - 1 - (n - 1 - i) = i := by omega
theorem Mirror.symm (h : Mirror F B n) : Mirror B F n := by
  refine ⟨fun i hi => ?_, fun i hi => ?_, fun i hi => ?_, fun i hi => ?_, fun i hi => ?_, fun i k hi hk => ?_⟩
  · rw [h.alone _ (by omega), turn2 hi]
  · rw [h.units _ (by omega), turn2 hi]
  · rw [h.first _ (by omega), turn2 hi]
  · rw [h.last _ (by omega), turn2 hi]
  · rw [h.e _ (by omega), turn2 hi]
  · rw [h.key _ _ (by omega) (by omega), turn2 hi, turn2 hk]
theorem mem_mirror (h : Mirror F B n) (hi : i < n) (hk : k < n) : k ∈ grp B n i ↔ n - 1 - k ∈ grp F n (n - 1 - i) := by
  rw [mem_grp, mem_grp, h.key k i hk hi]
  constructor
  · exact fun c => ⟨by omega, c.2⟩
  · exact fun c => ⟨hk, c.2⟩
theorem range_turn (n : Nat) : (List.range n).map (fun k => n - 1 - k) = (List.range n).reverse := by
  apply List.ext_getElem
  · simp
  · intro a ha hb
    simp
theorem grp_mirror (h : Mirror F B n) (hi : i < n) : (grp B n i).map (fun k => n - 1 - k) = (grp F n (n - 1 - i)).reverse := by
  unfold grp
  rw [← List.filter_reverse, ← range_turn, List.filter_map]
  congr 1
  apply List.filter_congr
  intro k hk
  have hk := List.mem_range.1 hk
  have := h.key k i hk hi
  simp [this]
theorem map_mirror (h : Mirror F B n) (hi : i < n) (g g' : LnD → Int) (hg : ∀ k, k < n → g (B k) = g' (F (n - 1 - k))) : ((grp B n i).map (fun k => g (B k))).sum = ((grp F n (n - 1 - i)).map (fun k => g' (F k))).sum := by
  rw [← sum_rev ((grp F n (n - 1 - i)).map _), ← List.map_reverse, ← grp_mirror h hi, List.map_map]
  congr 1
  apply List.map_congr_left
  intro k hk
  exact hg k (mem_grp.1 hk).1
theorem du_mirror (h : Mirror F B n) (hi : i < n) : (duAt B n i).alone = (duAt F n (n - 1 - i)).alone ∧ (duAt B n i).units = (duAt F n (n - 1 - i)).units ∧ (duAt B n i).first = (duAt F n (n - 1 - i)).first ∧ (duAt B n i).last = (duAt F n (n - 1 - i)).last ∧ (duAt B n i).ls.length = (duAt F n (n - 1 - i)).ls.length := by
  refine ⟨?_, ?_, ?_, ?_, ?_⟩
  · rw [(duAt_sum B n i).1, (duAt_sum F n _).1]
    exact map_mirror h hi (·.alone) (·.alone) h.alone
  · rw [(duAt_sum B n i).2, (duAt_sum F n _).2]
    exact map_mirror h hi (·.units) (·.units) h.units
  · obtain ⟨k, hk, e⟩ := duAt_min (f := B) hi
    obtain ⟨k2, hk2, e2⟩ := duAt_min (f := F) (n := n) (i := n - 1 - i) (by omega)
    have hkn := (mem_grp.1 hk).1
    have hkn2 := (mem_grp.1 hk2).1
    have h1 := (duAt_days F n (n - 1 - i) _ ((mem_mirror h hi hkn).1 hk)).1
    have h2 := (duAt_days B n i (n - 1 - k2) ((mem_mirror h hi (by omega)).2 (by rw [turn2 hkn2]; exact hk2))).1
    rw [h.first _ (by omega), turn2 hkn2] at h2
    rw [h.first k hkn] at e
    omega
  · obtain ⟨k, hk, e⟩ := duAt_max (f := B) hi
    obtain ⟨k2, hk2, e2⟩ := duAt_max (f := F) (n := n) (i := n - 1 - i) (by omega)
    have hkn := (mem_grp.1 hk).1
    have hkn2 := (mem_grp.1 hk2).1
    have h1 := (duAt_days F n (n - 1 - i) _ ((mem_mirror h hi hkn).1 hk)).2
    have h2 := (duAt_days B n i (n - 1 - k2) ((mem_mirror h hi (by omega)).2 (by rw [turn2 hkn2]; exact hk2))).2
    rw [h.last _ (by omega), turn2 hkn2] at h2
    rw [h.last k hkn] at e
    omega
  · rw [duAt_ls, duAt_ls]
    have := congrArg List.length (grp_mirror h hi)
    simpa using this
theorem okAll_iff (f : Nat → LnD) (n : Nat) : okAll f n ↔ (∀ i, i < n → (f i).e = 0) ∧ ∀ i, i < n → okD (duAt f n i) := by
  unfold okAll
  constructor
  · intro h
    refine ⟨h.1, fun i hi => ?_⟩
    obtain ⟨k, h1, h2, h3⟩ := exists_first f i
    have := h.2 (duAt f n k) (List.mem_map_of_mem (mem_firsts.2 ⟨by omega, h2⟩))
    unfold okD at this ⊢
    rw [(duAt_sum f n i).1, (duAt_sum f n i).2, ← grp_same h3 n, ← (duAt_sum f n k).1, ← (duAt_sum f n k).2]
    exact this
  · intro h
    refine ⟨h.1, fun d hd => ?_⟩
    obtain ⟨i, hi, _, rfl⟩ := dus_mem hd
    exact h.2 i hi
theorem ok_mirror (h : Mirror F B n) : okAll F n ↔ okAll B n := by
  have key : ∀ {F B : Nat → LnD}, Mirror F B n → okAll F n → okAll B n := fun {F B} h hF => by
    rw [okAll_iff] at hF ⊢
    refine ⟨fun i hi => by rw [h.e i hi]; exact hF.1 _ (by omega), fun i hi => ?_⟩
    have h1 := du_mirror h hi
    have h2 := hF.2 (n - 1 - i) (by omega)
    unfold okD at h2 ⊢
    rw [h1.1, h1.2.1]
    exact h2
  exact ⟨key h, key h.symm⟩
/-! ### As many -/
def lastsL (f : Nat → LnD) (n : Nat) : List Nat := (firsts f n).map (fun i => (grp f n i).getLastD 0)
theorem grp_last (hi : i < n) : ∃ tl a, grp f n i = tl ++ [a] ∧ a < n ∧ (f a).key = (f i).key ∧ ∀ k, k < n → (f k).key = (f i).key → k ≤ a := by
  have hm : i ∈ grp f n i := mem_grp.2 ⟨hi, rfl⟩
  have hs := grp_sorted f n i
  have hmem : ∀ k, k ∈ grp f n i ↔ k < n ∧ (f k).key = (f i).key := fun k => mem_grp
  generalize grp f n i = l at *
  rcases List.eq_nil_or_concat l with c | ⟨tl, a, c⟩
  · rw [c] at hm; cases hm
  · rw [List.concat_eq_append] at c
    subst c
    have ha := (hmem a).1 (by simp)
    refine ⟨tl, a, rfl, ha.1, ha.2, fun k h1 h2 => ?_⟩
    have hk := (hmem k).2 ⟨h1, h2⟩
    rcases List.mem_append.1 hk with c | c
    · exact Nat.le_of_lt ((List.pairwise_append.1 hs).2.2 k c a (by simp))
    · rw [List.mem_singleton.1 c]; exact Nat.le_refl _
/-- The turned line's place, of a class: n - 1 less its last. -/
def turnF (F : Nat → LnD) (n i : Nat) : Nat := n - 1 - (grp F n i).getLastD 0
theorem turnF_first (h : Mirror F B n) (hi : i < n) : turnF F n i < n ∧ isFirst B (turnF F n i) = true ∧ (F (n - 1 - turnF F n i)).key = (F i).key := by
  obtain ⟨tl, a, e, h1, h2, h3⟩ := grp_last (f := F) hi
  unfold turnF
  rw [e]
  simp only [List.getLastD_concat]
  refine ⟨by omega, isFirst_iff.2 fun k hk c => ?_, by rw [turn2 h1]; exact h2⟩
  have hkn : k < n := by omega
  have := (h.key k (n - 1 - a) hkn (by omega)).1 c
  rw [turn2 h1, h2] at this
  have := h3 (n - 1 - k) (by omega) this
  omega
theorem firsts_nodup (f : Nat → LnD) (n : Nat) : (firsts f n).Nodup := (firsts_sorted f n).imp (fun h => Nat.ne_of_lt h)
theorem len_le_of_inj {l l' : List Nat} (g : Nat → Nat) (hl : l.Nodup) (hm : ∀ x ∈ l, g x ∈ l') (hg : ∀ x ∈ l, ∀ y ∈ l, g x = g y → x = y) : l.length ≤ l'.length := by
  induction l generalizing l' with
  | nil => exact Nat.zero_le _
  | cons a l ih =>
    have hn := List.nodup_cons.1 hl
    have := ih (l' := l'.erase (g a)) hn.2 (fun x hx => by
      refine (List.mem_erase_of_ne (fun e => ?_)).2 (hm x (List.mem_cons_of_mem _ hx))
      have := hg x (List.mem_cons_of_mem _ hx) a (List.mem_cons_self ..) e
      exact hn.1 (this ▸ hx)) (fun x hx y hy => hg x (List.mem_cons_of_mem _ hx) y (List.mem_cons_of_mem _ hy))
    rw [List.length_erase_of_mem (hm a (List.mem_cons_self ..))] at this
    have h0 : 0 < l'.length := List.length_pos_of_mem (hm a (List.mem_cons_self ..))
    rw [List.length_cons]
    omega
theorem firsts_le (h : Mirror F B n) : (firsts F n).length ≤ (firsts B n).length := by
  refine len_le_of_inj (turnF F n) (firsts_nodup F n) (fun x hx => ?_) (fun x hx y hy e => ?_)
  · have hx := mem_firsts.1 hx
    have := turnF_first h hx.1
    exact mem_firsts.2 ⟨this.1, this.2.1⟩
  · have hx := mem_firsts.1 hx
    have hy := mem_firsts.1 hy
    have h1 := (turnF_first h hx.1).2.2
    have h2 := (turnF_first h hy.1).2.2
    rw [e] at h1
    exact first_uniq hx.2 hy.2 (h1.symm.trans h2)
theorem len_mirror (h : Mirror F B n) : (dus F n).length = (dus B n).length := by
  rw [dus_len, dus_len]
  exact Nat.le_antisymm (firsts_le h) (firsts_le h.symm)
/-! ### Just one -/
def oneD (x y : Du) : Bool := decide (x.alone = y.alone) && (decide (x.units = y.units) && (decide (x.first = y.first) && (decide (x.last = y.last) && decide (x.ls.length = y.ls.length))))
def matD (n : Nat) (x y : Du) : Bool := decide (((n : Int) - 1) - ((x.ls.headD 0 : Nat) : Int) = ((y.ls.getLastD 0 : Nat) : Int)) && oneD x y
theorem countP_one {l : List Nat} (hl : l.Nodup) {p : Nat → Bool} {a : Nat} (ha : a ∈ l) (hp : ∀ x ∈ l, p x = true ↔ x = a) : l.countP p = 1 := by
  induction l with
  | nil => cases ha
  | cons b l ih =>
    have hn := List.nodup_cons.1 hl
    by_cases c : b = a
    · subst c
      rw [List.countP_cons_of_pos ((hp b (List.mem_cons_self ..)).2 rfl)]
      have : l.countP p = 0 := by
        rw [List.countP_eq_zero]
        intro x hx hpx
        have := (hp x (List.mem_cons_of_mem _ hx)).1 hpx
        exact hn.1 (this ▸ hx)
      omega
    · rw [List.countP_cons_of_neg (fun h => c ((hp b (List.mem_cons_self ..)).1 h))]
      exact ih hn.2 ((List.mem_cons.1 ha).resolve_left (fun e => c e.symm)) (fun x hx => hp x (List.mem_cons_of_mem _ hx))
theorem match_one (h : Mirror F B n) {x : Du} (hx : x ∈ dus F n) : (dus B n).countP (matD n x) = 1 := by
  obtain ⟨i, hi, hf, rfl⟩ := dus_mem hx
  obtain ⟨hj1, hj2, hj3⟩ := turnF_first h hi
  unfold dus
  rw [List.countP_map]
  refine countP_one (firsts_nodup B n) (mem_firsts.2 ⟨hj1, hj2⟩) (fun y hy => ?_)
  have hy := mem_firsts.1 hy
  obtain ⟨tl, hhd⟩ := grp_head hf hi
  obtain ⟨tl2, a, e, h1, h2, h3⟩ := grp_last (f := B) hy.1
  show matD n (duAt F n i) (duAt B n y) = true ↔ _
  unfold matD
  rw [duAt_ls, duAt_ls, hhd, e]
  simp only [List.headD_cons, List.getLastD_concat, Bool.and_eq_true, decide_eq_true_eq]
  constructor
  · intro c
    have ha : a = n - 1 - i := by omega
    have hk : (F (n - 1 - y)).key = (F i).key := by
      have := (h.key a y h1 hy.1).1 h2
      rw [ha, turn2 hi] at this
      exact this.symm
    have hk2 := (h.key y (turnF F n i) hy.1 hj1).2 (hk.trans hj3.symm)
    exact first_uniq hy.2 hj2 hk2
  · intro c
    have hk : (F (n - 1 - y)).key = (F i).key := by rw [c]; exact hj3
    have hd := du_mirror h hy.1
    have hs := grp_same hk n
    have hsum := duAt_sum F n i
    have hsum2 := duAt_sum F n (n - 1 - y)
    have hmem : n - 1 - i ∈ grp B n y := (mem_mirror h hy.1 (by omega)).2 (by rw [turn2 hi, hs]; exact mem_grp.2 ⟨hi, rfl⟩)
    have hia : a = n - 1 - i := by
      have hb := h3 (n - 1 - i) (by omega) (mem_grp.1 hmem).2
      have hc : n - 1 - a ∈ grp F n i := by
        rw [← hs]
        exact (mem_mirror h hy.1 h1).1 (by rw [e]; simp)
      have := mem_grp.1 hc
      rcases Nat.lt_or_ge (n - 1 - a) i with q | q
      · exact absurd this.2 (isFirst_iff.1 hf _ q)
      · omega
    refine ⟨by omega, ?_⟩
    unfold oneD
    simp only [Bool.and_eq_true, decide_eq_true_eq]
    have hl1 : (duAt F n i).ls.length = (duAt F n (n - 1 - y)).ls.length := by rw [duAt_ls, duAt_ls, hs]
    refine ⟨by rw [hd.1, hsum.1, hsum2.1, hs], by rw [hd.2.1, hsum.2, hsum2.2, hs], ?_, ?_, by rw [hd.2.2.2.2, hl1]⟩
    · rw [hd.2.2.1]
      obtain ⟨k, hk1, e1⟩ := duAt_min (f := F) hi
      obtain ⟨k2, hk2, e2⟩ := duAt_min (f := F) (n := n) (i := n - 1 - y) (by omega)
      have q1 := (duAt_days F n (n - 1 - y) k (by rw [hs]; exact hk1)).1
      have q2 := (duAt_days F n i k2 (by rw [← hs]; exact hk2)).1
      omega
    · rw [hd.2.2.2.1]
      obtain ⟨k, hk1, e1⟩ := duAt_max (f := F) hi
      obtain ⟨k2, hk2, e2⟩ := duAt_max (f := F) (n := n) (i := n - 1 - y) (by omega)
      have q1 := (duAt_days F n (n - 1 - y) k (by rw [hs]; exact hk1)).2
      have q2 := (duAt_days F n i k2 (by rw [← hs]; exact hk2)).2
      omega
end
end Go.Proofs.Ytbdhbongaikphaa.DU
