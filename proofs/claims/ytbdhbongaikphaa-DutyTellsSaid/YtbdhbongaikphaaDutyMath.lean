/- Obligations as plain data: lines of one key are one. -/
import Derived.Test.YtbdhbongaikphaaCents
namespace Go.Proofs.Ytbdhbongaikphaa.DU
open Go.Proofs.Ytbdhbongaikphaa.Cents
set_option linter.unusedVariables false

/-- What is known of a line. -/
structure LnD where
  key : Int × Int
  alone : Int
  units : Int
  method : Int
  first : Int
  last : Int
  e : Int
structure Du where
  ls : List Nat
  alone : Int
  units : Int
  method : Int
  first : Int
  last : Int
def isFirst (f : Nat → LnD) (i : Nat) : Bool := (List.range i).all (fun k => decide ((f k).key ≠ (f i).key))
def firsts (f : Nat → LnD) (j : Nat) : List Nat := (List.range j).filter (isFirst f)
def grp (f : Nat → LnD) (j i : Nat) : List Nat := (List.range j).filter (fun k => decide ((f k).key = (f i).key))
def joinD (d : Du) (j : Nat) (x : LnD) : Du := ⟨d.ls ++ [j], d.alone + x.alone, d.units + x.units, d.method, min d.first x.first, max d.last x.last⟩
def du0 (x : LnD) : Du := ⟨[], 0, 0, x.method, x.first, x.last⟩
def duAt (f : Nat → LnD) (j i : Nat) : Du := (grp f j i).foldl (fun d k => joinD d k (f k)) (du0 (f i))
def dus (f : Nat → LnD) (j : Nat) : List Du := (firsts f j).map (duAt f j)
def keys (f : Nat → LnD) (j : Nat) : List (Int × Int) := (firsts f j).map (fun i => (f i).key)
section
variable {f : Nat → LnD} {i j k n : Nat}
theorem isFirst_iff : isFirst f i = true ↔ ∀ k, k < i → (f k).key ≠ (f i).key := by
  unfold isFirst
  rw [List.all_eq_true]
  constructor
  · intro h k hk
    simpa using h k (List.mem_range.2 hk)
  · intro h k hk
    simpa using h k (List.mem_range.1 hk)
theorem firsts_succ (f : Nat → LnD) (j : Nat) : firsts f (j + 1) = firsts f j ++ if isFirst f j = true then [j] else [] := by
  unfold firsts
  rw [List.range_succ, List.filter_append]
  by_cases h : isFirst f j = true
  · simp [h]
  · simp [h]
theorem grp_succ (f : Nat → LnD) (j i : Nat) : grp f (j + 1) i = grp f j i ++ if (f j).key = (f i).key then [j] else [] := by
  unfold grp
  rw [List.range_succ, List.filter_append]
  by_cases h : (f j).key = (f i).key
  · simp [h]
  · simp [h]
theorem duAt_succ (f : Nat → LnD) (j i : Nat) : duAt f (j + 1) i = if (f j).key = (f i).key then joinD (duAt f j i) j (f j) else duAt f j i := by
  unfold duAt
  rw [grp_succ, List.foldl_append]
  by_cases h : (f j).key = (f i).key
  · rw [if_pos h, if_pos h]; rfl
  · rw [if_neg h, if_neg h]; rfl
theorem mem_firsts : i ∈ firsts f j ↔ i < j ∧ isFirst f i = true := by
  unfold firsts
  rw [List.mem_filter, List.mem_range]
theorem mem_grp : k ∈ grp f j i ↔ k < j ∧ (f k).key = (f i).key := by
  unfold grp
  rw [List.mem_filter, List.mem_range]
  simp
theorem exists_first (f : Nat → LnD) : ∀ k, ∃ i, i ≤ k ∧ isFirst f i = true ∧ (f i).key = (f k).key := by
  intro k
  induction k using Nat.strongRecOn with
  | _ k ih =>
    by_cases h : isFirst f k = true
    · exact ⟨k, Nat.le_refl _, h, rfl⟩
    · have h2 : ¬ ∀ m, m < k → (f m).key ≠ (f k).key := fun c => h (isFirst_iff.2 c)
      have ⟨m, hm⟩ := Classical.not_forall.1 h2
      have ⟨hm1, hm2⟩ := Classical.not_imp.1 hm
      have hm2 := Classical.not_not.1 hm2
      obtain ⟨i, h3, h4, h5⟩ := ih m hm1
      exact ⟨i, by omega, h4, h5.trans hm2⟩
theorem first_uniq (h1 : isFirst f i = true) (h2 : isFirst f k = true) (h : (f i).key = (f k).key) : i = k := by
  rcases Nat.lt_trichotomy i k with c | c | c
  · exact absurd h (isFirst_iff.1 h2 i c)
  · exact c
  · exact absurd h.symm (isFirst_iff.1 h1 k c)
theorem firsts_sorted (f : Nat → LnD) (j : Nat) : (firsts f j).Pairwise (· < ·) := by
  unfold firsts
  exact List.Pairwise.filter _ List.pairwise_lt_range
theorem firsts_len (f : Nat → LnD) (j : Nat) : (firsts f j).length ≤ j := by
  unfold firsts
  have := List.length_filter_le (isFirst f) (List.range j)
  simpa using this
theorem keys_len (f : Nat → LnD) (j : Nat) : (keys f j).length = (firsts f j).length := by simp [keys]
theorem dus_len (f : Nat → LnD) (j : Nat) : (dus f j).length = (firsts f j).length := by simp [dus]
theorem keys_inj {a b : Nat} (ha : a < (firsts f j).length) (hb : b < (firsts f j).length) (h : (f (firsts f j)[a]).key = (f (firsts f j)[b]).key) : a = b := by
  have h1 := (mem_firsts (f := f).1 (List.getElem_mem ha)).2
  have h2 := (mem_firsts (f := f).1 (List.getElem_mem hb)).2
  have h3 := first_uniq h1 h2 h
  rcases Nat.lt_trichotomy a b with c | c | c
  · have := List.pairwise_iff_getElem.1 (firsts_sorted f j) a b ha hb c
    omega
  · exact c
  · have := List.pairwise_iff_getElem.1 (firsts_sorted f j) b a hb ha c
    omega
/-- The line is of an obligation that is there. -/
theorem step_old {t : Nat} (ht : t < (firsts f j).length) (hk : (f (firsts f j)[t]).key = (f j).key) :
    firsts f (j + 1) = firsts f j ∧ keys f (j + 1) = keys f j ∧ dus f (j + 1) = (dus f j).set t (joinD (duAt f j (firsts f j)[t]) j (f j)) := by
  have hm := mem_firsts (f := f).1 (List.getElem_mem ht)
  have h1 : firsts f (j + 1) = firsts f j := by
    rw [firsts_succ, if_neg (fun h => isFirst_iff.1 h _ hm.1 hk), List.append_nil]
  refine ⟨h1, by unfold keys; rw [h1], ?_⟩
  unfold dus
  rw [h1]
  apply List.ext_getElem
  · simp
  · intro a ha hb
    have ha' : a < (firsts f j).length := by simpa using ha
    rw [List.getElem_map, duAt_succ, List.getElem_set]
    by_cases hat : t = a
    · subst hat
      rw [if_pos hk.symm, if_pos rfl]
    · rw [if_neg hat, if_neg (fun h => hat (keys_inj ht ha' (hk.trans h))), List.getElem_map]
/-- The line begins a new one. -/
theorem step_new (h : ∀ t (ht : t < (firsts f j).length), (f (firsts f j)[t]).key ≠ (f j).key) :
    firsts f (j + 1) = firsts f j ++ [j] ∧ keys f (j + 1) = keys f j ++ [(f j).key] ∧ dus f (j + 1) = dus f j ++ [joinD (du0 (f j)) j (f j)] := by
  have hno : ∀ k, k < j → (f k).key ≠ (f j).key := fun k hk e => by
    obtain ⟨i, h1, h2, h3⟩ := exists_first f k
    have hm : i ∈ firsts f j := mem_firsts.2 ⟨by omega, h2⟩
    obtain ⟨t, ht, rfl⟩ := List.getElem_of_mem hm
    exact h t ht (h3.trans e)
  have h1 : firsts f (j + 1) = firsts f j ++ [j] := by rw [firsts_succ, if_pos (isFirst_iff.2 hno)]
  refine ⟨h1, by unfold keys; rw [h1, List.map_append]; rfl, ?_⟩
  unfold dus
  rw [h1, List.map_append]
  congr 1
  · apply List.map_congr_left
    intro i hi
    rw [duAt_succ, if_neg (fun e => hno i (mem_firsts.1 hi).1 e.symm)]
  · show [duAt f (j + 1) j] = _
    rw [duAt_succ, if_pos rfl]
    have : grp f j j = [] := by
      unfold grp
      rw [List.filter_eq_nil_iff]
      intro k hk
      simpa using hno k (List.mem_range.1 hk)
    unfold duAt
    rw [this]
    rfl
/-! ### What fits -/
def okD (d : Du) : Prop := I64 d.alone ∧ I64 d.units
def okAll (f : Nat → LnD) (n : Nat) : Prop := (∀ i, i < n → (f i).e = 0) ∧ ∀ d ∈ dus f n, okD d
def Pos (f : Nat → LnD) (n : Nat) : Prop := ∀ i, i < n → 0 ≤ (f i).alone ∧ 0 ≤ (f i).units
theorem Pos.less (h : Pos f n) (hj : j ≤ n) : Pos f j := fun i hi => h i (by omega)
theorem du_nonneg (h : Pos f n) (i : Nat) : 0 ≤ (duAt f n i).alone ∧ 0 ≤ (duAt f n i).units := by
  induction n with
  | zero => exact ⟨Int.le_refl _, Int.le_refl _⟩
  | succ n ih =>
    have ih := ih (h.less (by omega))
    have hn := h n (by omega)
    rw [duAt_succ]
    split
    · exact ⟨Int.add_nonneg ih.1 hn.1, Int.add_nonneg ih.2 hn.2⟩
    · exact ih
theorem du_mono (h : Pos f n) (hj : j ≤ n) (i : Nat) : (duAt f j i).alone ≤ (duAt f n i).alone ∧ (duAt f j i).units ≤ (duAt f n i).units := by
  induction n with
  | zero => obtain rfl : j = 0 := by omega
            exact ⟨Int.le_refl _, Int.le_refl _⟩
  | succ n ih =>
    by_cases hjn : j = n + 1
    · subst hjn; exact ⟨Int.le_refl _, Int.le_refl _⟩
    · have ih := ih (h.less (by omega)) (by omega)
      have hn := h n (by omega)
      rw [duAt_succ f n i]
      split
      · show _ ≤ (duAt f n i).alone + (f n).alone ∧ _ ≤ (duAt f n i).units + (f n).units
        omega
      · exact ih
theorem firsts_mono (hj : j ≤ n) (h : i ∈ firsts f j) : i ∈ firsts f n := by
  rw [mem_firsts] at h ⊢
  exact ⟨by omega, h.2⟩
theorem I64_within {a b : Int} (h0 : 0 ≤ a) (h1 : a ≤ b) (h : I64 b) : I64 a := ⟨by have := h.1; omega, by have := h.2; omega⟩
theorem okAll_less (h : okAll f n) (hp : Pos f n) (hj : j ≤ n) : okAll f j := by
  refine ⟨fun i hi => h.1 i (by omega), fun d hd => ?_⟩
  unfold dus at hd
  obtain ⟨i, hi, rfl⟩ := List.mem_map.1 hd
  have h2 := h.2 (duAt f n i) (List.mem_map_of_mem (firsts_mono hj hi))
  have h3 := du_mono hp hj i
  have h4 := du_nonneg (hp.less hj) i
  exact ⟨I64_within h4.1 h3.1 h2.1, I64_within h4.2 h3.2 h2.2⟩
theorem okAll_zero (f : Nat → LnD) : okAll f 0 := ⟨fun i hi => by omega, fun d hd => by cases hd⟩
theorem ok_old {t : Nat} (h : okAll f j) (ht : t < (firsts f j).length) (hk : (f (firsts f j)[t]).key = (f j).key) (he : (f j).e = 0) : okAll f (j + 1) ↔ okD (joinD (duAt f j (firsts f j)[t]) j (f j)) := by
  have hs := (step_old ht hk).2.2
  constructor
  · intro h2
    refine h2.2 _ ?_
    rw [hs]
    exact List.mem_set (by simpa [dus] using ht) _
  · intro h2
    refine ⟨fun i hi => ?_, fun d hd => ?_⟩
    · by_cases c : i = j
      · subst c; exact he
      · exact h.1 i (by omega)
    · rw [hs] at hd
      rcases List.mem_or_eq_of_mem_set hd with c | c
      · exact h.2 d c
      · rw [c]; exact h2
theorem ok_new (h : okAll f j) (hn : ∀ t (ht : t < (firsts f j).length), (f (firsts f j)[t]).key ≠ (f j).key) (he : (f j).e = 0) : okAll f (j + 1) ↔ okD (joinD (du0 (f j)) j (f j)) := by
  have hs := (step_new hn).2.2
  constructor
  · intro h2
    exact h2.2 _ (by rw [hs]; simp)
  · intro h2
    refine ⟨fun i hi => ?_, fun d hd => ?_⟩
    · by_cases c : i = j
      · subst c; exact he
      · exact h.1 i (by omega)
    · rw [hs] at hd
      rcases List.mem_append.1 hd with c | c
      · exact h.2 d c
      · rw [List.mem_singleton.1 c]; exact h2
theorem ok_err (he : (f j).e ≠ 0) : ¬ okAll f (j + 1) := fun h => he (h.1 j (by omega))
/-! ### Each line is of one -/
theorem foldl_ls (l : List Nat) (d : Du) : (l.foldl (fun d k => joinD d k (f k)) d).ls = d.ls ++ l := by
  induction l generalizing d with
  | nil => simp
  | cons k l ih => rw [List.foldl_cons, ih]; simp [joinD]
theorem duAt_ls (f : Nat → LnD) (n i : Nat) : (duAt f n i).ls = grp f n i := by
  unfold duAt
  rw [foldl_ls]
  rfl
theorem duAt_method (f : Nat → LnD) (n i : Nat) : (duAt f n i).method = (f i).method := by
  induction n with
  | zero => rfl
  | succ n ih =>
    rw [duAt_succ]
    split
    · exact ih
    · exact ih
theorem duAt_days (f : Nat → LnD) (n i : Nat) : ∀ k ∈ grp f n i, (duAt f n i).first ≤ (f k).first ∧ (f k).last ≤ (duAt f n i).last := by
  induction n with
  | zero => intro k hk; cases hk
  | succ n ih =>
    intro k hk
    rw [mem_grp] at hk
    rw [duAt_succ]
    by_cases c : (f n).key = (f i).key
    · rw [if_pos c]
      show min _ _ ≤ _ ∧ _ ≤ max _ _
      by_cases hkn : k = n
      · subst hkn; omega
      · have := ih k (mem_grp.2 ⟨by omega, hk.2⟩)
        omega
    · rw [if_neg c]
      have hkn : k ≠ n := fun e => c (by rw [← e]; exact hk.2)
      exact ih k (mem_grp.2 ⟨by omega, hk.2⟩)
def sumAl (l : List Du) : Int := (l.map (·.alone)).sum
def sumUn (l : List Du) : Int := (l.map (·.units)).sum
theorem sum_set {l : List Du} {t : Nat} (ht : t < l.length) (d : Du) (g : Du → Int) : ((l.set t d).map g).sum = (l.map g).sum - g l[t] + g d := by
  induction l generalizing t with
  | nil => simp at ht
  | cons x l ih =>
    cases t with
    | zero => simp; omega
    | succ t =>
      have := ih (t := t) (by simpa using ht)
      simp only [List.set_cons_succ, List.map_cons, List.sum_cons, List.getElem_cons_succ]
      rw [this]; omega
theorem dus_at {t : Nat} (ht : t < (firsts f n).length) (h2 : t < (dus f n).length) : (dus f n)[t] = duAt f n (firsts f n)[t] := by
  simp [dus]
theorem sums_all (f : Nat → LnD) (n : Nat) : sumAl (dus f n) = ((List.range n).map (fun i => (f i).alone)).sum ∧ sumUn (dus f n) = ((List.range n).map (fun i => (f i).units)).sum := by
  induction n with
  | zero => exact ⟨rfl, rfl⟩
  | succ n ih =>
    rw [List.range_succ, List.map_append, List.sum_append, List.map_append, List.sum_append, ← ih.1, ← ih.2]
    unfold sumAl sumUn
    by_cases c : ∀ t (ht : t < (firsts f n).length), (f (firsts f n)[t]).key ≠ (f n).key
    · rw [(step_new c).2.2]
      simp [joinD, du0]
    · have ⟨t, c⟩ := Classical.not_forall.1 c
      have ⟨ht, c⟩ := Classical.not_forall.1 c
      have c := Classical.not_not.1 c
      have hl : t < (dus f n).length := by rw [dus_len]; exact ht
      rw [(step_old ht c).2.2, sum_set hl, sum_set hl, dus_at ht hl]
      simp [joinD]
      omega
theorem count_all (f : Nat → LnD) (n k : Nat) : ((dus f n).map (fun d => (d.ls.count k : Int))).sum = if k < n then 1 else 0 := by
  induction n with
  | zero => rfl
  | succ n ih =>
    have h1 : ((([n] : List Nat).count k : Nat) : Int) = if k = n then 1 else 0 := by
      by_cases c : k = n
      · subst c; simp
      · rw [if_neg c, List.count_singleton]; simp [Ne.symm c]
    by_cases c : ∀ t (ht : t < (firsts f n).length), (f (firsts f n)[t]).key ≠ (f n).key
    · rw [(step_new c).2.2, List.map_append, List.sum_append, ih]
      show _ + (((([] ++ [n] : List Nat).count k : Nat) : Int) + 0) = _
      rw [List.nil_append, h1]
      repeat' split
      all_goals omega
    · have ⟨t, c⟩ := Classical.not_forall.1 c
      have ⟨ht, c⟩ := Classical.not_forall.1 c
      have c := Classical.not_not.1 c
      have hl : t < (dus f n).length := by rw [dus_len]; exact ht
      rw [(step_old ht c).2.2, sum_set hl, ih, dus_at ht hl]
      show _ - _ + (((((duAt f n (firsts f n)[t]).ls ++ [n]).count k : Nat)) : Int) = _
      rw [List.count_append, Int.natCast_add, h1]
      repeat' split
      all_goals omega
theorem grp_sorted (f : Nat → LnD) (n i : Nat) : (grp f n i).Pairwise (· < ·) := by
  unfold grp
  exact List.Pairwise.filter _ List.pairwise_lt_range
theorem grp_head (h : isFirst f i = true) (hi : i < n) : ∃ tl, grp f n i = i :: tl := by
  have hm : i ∈ grp f n i := mem_grp.2 ⟨hi, rfl⟩
  have hs := grp_sorted f n i
  have ha : ∀ k ∈ grp f n i, i ≤ k := fun k hk => by
    rcases Nat.lt_or_ge k i with c | c
    · exact absurd (mem_grp.1 hk).2 (isFirst_iff.1 h k c)
    · exact c
  generalize grp f n i = l at *
  cases l with
  | nil => cases hm
  | cons a tl =>
    have h1 := ha a (List.mem_cons_self ..)
    rcases List.mem_cons.1 hm with c | c
    · exact ⟨tl, by rw [c]⟩
    · have := (List.pairwise_cons.1 hs).1 i c
      omega
theorem dus_mem {d : Du} (h : d ∈ dus f n) : ∃ i, i < n ∧ isFirst f i = true ∧ d = duAt f n i := by
  unfold dus at h
  obtain ⟨i, hi, rfl⟩ := List.mem_map.1 h
  exact ⟨i, (mem_firsts.1 hi).1, (mem_firsts.1 hi).2, rfl⟩
theorem grp_len (f : Nat → LnD) (n i : Nat) : (grp f n i).length ≤ n := by
  unfold grp
  have := List.length_filter_le (fun k => decide ((f k).key = (f i).key)) (List.range n)
  simpa using this
end
end Go.Proofs.Ytbdhbongaikphaa.DU
