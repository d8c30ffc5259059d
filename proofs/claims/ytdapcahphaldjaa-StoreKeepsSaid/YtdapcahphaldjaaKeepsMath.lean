/- The law StoreKeeps, plain: what a write leaves. -/
import Derived.Test.YtdapcahphaldjaaStoreMath
namespace Go.Proofs.Ytdapcahphaldjaa.Store
set_option linter.unusedVariables false
set_option linter.unusedSimpArgs false

theorem ext_eq {a b : ByteArray} (h : a.data.toList = b.data.toList) : a = b := ByteArray.ext (Array.toList_inj.1 h)
theorem torn_whole {b old : ByteArray} (hb : b.size = 64) : torn b old 64 = b := by
  apply ext_eq
  rw [torn_list, List.take_of_length_le (by rw [← Lib.size_eq, hb]; omega)]
  simp
theorem torn_none {b old : ByteArray} (ho : old.size = 64) : torn b old 0 = old := by
  apply ext_eq
  rw [torn_list, List.take_zero, List.drop_zero, List.nil_append, List.take_of_length_le (by rw [← Lib.size_eq, ho]; omega)]
/-- What a write leaves of the block that it speaks of. -/
structure Left (b old new : ByteArray) (f : Int) (q : Nat) : Prop where
  hb : b.size = 64
  ho : old.size = 64
  hn : new.size = 64
  hq : q ≤ 64
  eq : new = torn b old q
  ok : f = 0 → new = b
theorem SS.write_code (s : SS) (i : Int) (b : ByteArray) : (s.write i b).2 = 0 ∨ (s.write i b).2 = 1 ∨ (s.write i b).2 = 9 := by
  unfold SS.write
  split
  · exact .inr (.inl rfl)
  · split
    · exact .inr (.inr rfl)
    · split
      · exact .inr (.inr rfl)
      · exact .inl rfl
theorem SS.write_many (s : SS) (i : Int) (b : ByteArray) : ((s.write i b).2 = 0 → (s.write i b).1.many = s.many + 1) ∧ ((s.write i b).2 ≠ 0 → (s.write i b).1.many = s.many) := by
  unfold SS.write
  split
  · exact ⟨fun h => by simp at h, fun _ => rfl⟩
  · split
    · exact ⟨fun h => by simp at h, fun _ => rfl⟩
    · split
      · exact ⟨fun h => by simp at h, fun _ => rfl⟩
      · exact ⟨fun _ => rfl, fun h => by simp at h⟩
theorem SS.write_far (s : SS) (i : Int) (b : ByteArray) (j : Nat) (h : (j : Int) ≠ i ∨ (s.write i b).2 = 1) : (s.write i b).1.bl[j]? = s.bl[j]? := by
  unfold SS.write at *
  split
  · rfl
  · rename_i hc
    rw [if_neg hc] at h
    have hi : 0 ≤ i := by omega
    split
    · rfl
    · rename_i hd
      rw [if_neg hd] at h
      split
      · rename_i hl
        rw [if_pos hl] at h
        have : (j : Int) ≠ i := by
          rcases h with h | h
          · exact h
          · simp at h
        simp only [List.getElem?_set]
        rw [if_neg (by omega)]
      · rename_i hl
        rw [if_neg hl] at h
        have : (j : Int) ≠ i := by
          rcases h with h | h
          · exact h
          · simp at h
        simp only [List.getElem?_set]
        rw [if_neg (by omega)]
theorem SS.write_near (s : SS) (b : ByteArray) (j : Nat) (hj : j < s.bl.length) (ha : All64 s.bl) (h : (s.write (j : Int) b).2 ≠ 1) : ∃ new q, (s.write (j : Int) b).1.bl[j]? = some new ∧ Left b s.bl[j] new (s.write (j : Int) b).2 q := by
  have ho : s.bl[j].size = 64 := ha _ (List.getElem_mem hj)
  unfold SS.write at *
  split
  · rename_i hc
    rw [if_pos hc] at h
    exact absurd rfl h
  · rename_i hc
    have hb : b.size = 64 := by omega
    split
    · exact ⟨s.bl[j], 0, List.getElem?_eq_getElem hj, hb, ho, ho, by omega, (torn_none ho).symm, fun h => by simp at h⟩
    · split
      · refine ⟨Store.torn b s.bl[j] (cut s.torn), cut s.torn, ?_, hb, ho, torn_size hb ho (cut_le _), cut_le _, rfl, fun h => by simp at h⟩
        simp only [Int.toNat_natCast, List.getElem?_set, hj]
        simp [List.getD_eq_getElem?_getD, List.getElem?_eq_getElem hj]
      · refine ⟨b, 64, ?_, hb, ho, hb, by omega, (torn_whole hb).symm, fun _ => rfl⟩
        simp only [Int.toNat_natCast, List.getElem?_set, hj]
        simp
theorem torn_get {b old : ByteArray} {q j : Nat} (hb : b.size = 64) (ho : old.size = 64) (hq : q ≤ 64) (hj : j < (torn b old q).size) (hj' : j < 64) : (torn b old q)[j] = if j < q then b[j]'(by omega) else old[j]'(by omega) := by
  have e : ∀ (s : ByteArray) (h : j < s.size), s[j] = s.data.toList[j]'(by rw [← Lib.size_eq]; exact h) := fun s h => rfl
  rw [e _ hj]
  have hl := torn_list (b := b) (old := old) (n := q)
  have h1 : (torn b old q).data.toList[j]? = (b.data.toList.take q ++ (old.data.toList.drop q).take (64 - q))[j]? := by rw [hl]
  have hlb : b.data.toList.length = 64 := by rw [← Lib.size_eq, hb]
  have hlo : old.data.toList.length = 64 := by rw [← Lib.size_eq, ho]
  rw [List.getElem?_eq_getElem (by rw [← Lib.size_eq]; exact hj)] at h1
  by_cases c : j < q
  · rw [if_pos c]
    rw [List.getElem?_append_left (by rw [List.length_take]; omega), List.getElem?_take, if_pos c, List.getElem?_eq_getElem (by omega)] at h1
    exact Option.some.inj h1
  · rw [if_neg c]
    rw [List.getElem?_append_right (by rw [List.length_take]; omega), List.length_take, List.getElem?_take, if_pos (by omega), List.getElem?_drop, show q + (j - min q b.data.toList.length) = j by omega, List.getElem?_eq_getElem (by omega)] at h1
    exact Option.some.inj h1
/-- Behind the first byte that isn't b's, all is what was. -/
theorem Left.behind {b old new : ByteArray} {f : Int} {q k : Nat} (h : Left b old new f q) (hk : k ≤ 64) (hne : k = 64 ∨ ∃ (h1 : k < new.size) (h2 : k < b.size), new[k] ≠ b[k]) : new.extract k new.size = old.extract k old.size := by
  have hqk : q ≤ k := by
    rcases hne with rfl | ⟨h1, h2, hne⟩
    · exact h.hq
    · rcases Nat.lt_or_ge k q with c | c
      · exfalso
        apply hne
        have he := h.eq
        subst he
        have hq' := h.hq
        have := torn_get h.hb h.ho h.hq h1 (by omega)
        rw [this, if_pos c]
      · exact c
  apply ext_eq
  have he := h.eq
  subst he
  rw [ext_list, ext_list, h.hn, h.ho, torn_list, List.drop_append, List.drop_eq_nil_of_le (by rw [List.length_take, ← Lib.size_eq, h.hb]; omega)]
  have e : (List.take q b.data.toList).length = q := by
    have := h.hq
    rw [List.length_take, ← Lib.size_eq, h.hb]; omega
  rw [e, List.nil_append, List.drop_take, List.drop_drop, List.take_take, show q + (k - q) = k by omega]
  congr 1
  omega
end Go.Proofs.Ytdapcahphaldjaa.Store
