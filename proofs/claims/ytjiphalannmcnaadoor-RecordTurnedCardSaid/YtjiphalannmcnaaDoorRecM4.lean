/- What was laid is joined: plain. -/
import Derived.Test.YtjiphalannmcnaaDoorRecM3
namespace Go.Proofs.YtjiphalannmcnaaDoor.REC
open Go.RowKit
set_option linter.unusedVariables false
set_option linter.unusedSimpArgs false

theorem chunks (a : List UInt8) : ∀ K, (List.range K).flatMap (fun k => (a.drop (k * 64)).take 64) = a.take (K * 64)
  | 0 => by simp
  | K + 1 => by
    rw [List.range_succ, List.flatMap_append, chunks a K, Nat.succ_mul, List.take_add]
    simp
theorem cat_blk (a : List UInt8) (K : Nat) : cat ((List.range K).map (blkAt a)) = a.take (K * 64) := by
  unfold cat
  rw [List.flatMap_map, ← chunks a K]
  rfl
theorem cat_lay (m : Bool) (l : List UInt8) : cat (layL m l) = allB m l := by
  unfold layL
  rw [cat_blk, List.take_of_length_le (by rw [allB_len]; exact Nat.le_refl _)]
theorem lay_all64 (m : Bool) (l : List UInt8) : All64 (layL m l) := by
  intro b hb
  unfold layL at hb
  obtain ⟨k, hk, rfl⟩ := List.mem_map.1 hb
  exact blk_size (allB_len m l) (List.mem_range.1 hk)
theorem lay_ne (m : Bool) (l : List UInt8) : layL m l ≠ [] := fun h => by
  have := layL_len m l
  rw [h] at this
  have := (many_room l.length).2
  simp at *
  omega
theorem hd0_blk {a : List UInt8} {K : Nat} (h : 1 ≤ K) : hd0 ((List.range K).map (blkAt a)) = blkAt a 0 := by
  unfold hd0
  cases K with
  | zero => omega
  | succ K => rw [List.range_succ_eq_map]; rfl
theorem bAt_blk (a : List UInt8) {i : Nat} (h : i < 64) : bAt (blkAt a 0) i = (a.getD i 0).toNat := by
  unfold bAt
  rw [show (blkAt a 0).data.toList = a.take 64 by simp [blkAt]]
  simp [List.getD_eq_getElem?_getD, List.getElem?_take, h]
theorem all_get (m : Bool) (l : List UInt8) {i : Nat} (h : i < 7) : (allB m l).getD i 0 = (head7 m l).getD i 0 := by
  unfold allB
  rw [List.append_assoc, List.getD_eq_getElem?_getD, List.getElem?_append_left (by simp [head7]; omega), ← List.getD_eq_getElem?_getD]
theorem lay_head (m : Bool) {l : List UInt8} (hl : l.length ≤ 3000) : (hd0 (layL m l)).size = 64 ∧ bAt (hd0 (layL m l)) 0 = (if m = true then 1 else 0) ∧ bAt (hd0 (layL m l)) 1 * 256 + bAt (hd0 (layL m l)) 2 = l.length := by
  have h1 := (many_room l.length).2
  have e : hd0 (layL m l) = blkAt (allB m l) 0 := hd0_blk h1
  rw [e]
  refine ⟨blk_size (allB_len m l) h1, ?_, ?_⟩
  · rw [bAt_blk _ (by omega), all_get m l (by omega)]
    cases m <;> rfl
  · rw [bAt_blk _ (by omega), bAt_blk _ (by omega), all_get m l (by omega), all_get m l (by omega)]
    show (hb (l.length / 256)).toNat * 256 + (hb l.length).toNat = l.length
    rw [hb_nat, hb_nat]
    omega
theorem sum_lay (m : Bool) (l : List UInt8) : sumB (allB m l) = (chk l).toNat := by
  unfold sumB
  rw [all_get m l (by omega), all_get m l (by omega), all_get m l (by omega), all_get m l (by omega)]
  show (((hb ((chk l).toNat / 16777216)).toNat * 256 + (hb ((chk l).toNat / 65536)).toNat) * 256 + (hb ((chk l).toNat / 256)).toNat) * 256 + (hb (chk l).toNat).toNat = _
  have := (chk l).isLt
  simp only [hb_nat]
  omega
theorem all_drop (m : Bool) (l : List UInt8) : (allB m l).drop 7 = l ++ List.replicate (many l.length * 64 - (7 + l.length)) 0 := by
  unfold allB
  rw [List.append_assoc, List.drop_append_of_le_length (by simp [head7])]
  simp [head7]
/-- Marked: the bytes are told. -/
theorem join_lay {l : List UInt8} (hl : l.length ≤ 3000) : jnE (layL true l) = 0 ∧ jnS (layL true l) = ⟨l.toArray⟩ := by
  obtain ⟨h1, h2, h3⟩ := lay_head true hl
  obtain ⟨g1, g2, g3⟩ := hd_good h1 h2 (by omega)
  rw [h3] at g2
  have hbody : body (layL true l) = l := by
    unfold body
    rw [cat_lay, all_drop, g2]
    simp
  have := jn_good (lay_ne true l) (lay_all64 true l) g3 (by
    rw [g1, g2, layL_len]
    rintro (c | c)
    · cases c
    · refine c ?_
      unfold blkN many
      rw [if_neg (by omega)]
      omega) (by
    rw [hbody, cat_lay, sum_lay]
    rintro (c | c)
    · exact c rfl
    · refine c ?_
      unfold tail0
      rw [cat_lay, g2]
      intro b hb
      rw [show 7 + ((l.length : Int)).toNat = 7 + l.length by simp, ← List.drop_drop, all_drop] at hb
      simp at hb
      exact hb.2)
  rw [hbody] at this
  exact this
/-- Not marked: nothing is. -/
theorem join_plain {l : List UInt8} (hl : l.length ≤ 3000) : jnE (layL false l) = 2 := by
  obtain ⟨h1, h2, _⟩ := lay_head false hl
  obtain ⟨g1, _, g3⟩ := hd_zero h1 h2
  exact jn_mark (lay_ne false l) (lay_all64 false l) g3 (.inl g1)
/-! ### Marked or not: the first byte alone -/
theorem all_tail (l : List UInt8) : (allB true l).drop 1 = (allB false l).drop 1 := by simp [allB, head7]
theorem blk_tail (l : List UInt8) {k : Nat} (hk : 1 ≤ k) : blkAt (allB true l) k = blkAt (allB false l) k := by
  have : ∀ m, (allB m l).drop (k * 64) = ((allB m l).drop 1).drop (k * 64 - 1) := fun m => by
    rw [List.drop_drop]
    congr 1
    omega
  unfold blkAt
  rw [this true, this false, all_tail]
theorem lay_tail (l : List UInt8) : (layL true l).drop 1 = (layL false l).drop 1 := by
  refine List.ext_getElem (by simp [layL]) fun j h1 h2 => ?_
  simp only [layL, List.getElem_drop, List.getElem_map, List.getElem_range]
  exact blk_tail l (by omega)
theorem blk_first (m : Bool) (l : List UInt8) : (blkAt (allB m l) 0).extract 0 1 = ⟨#[if m = true then 1 else 0]⟩ := by
  have h : (blkAt (allB m l) 0).data.toList = (allB m l).take 64 := by simp [blkAt]
  rw [Lib.extract_eq, h]
  have : allB m l = (if m = true then 1 else 0) :: (allB m l).drop 1 := by simp [allB, head7]
  rw [this]
  simp
theorem blk_rest (l : List UInt8) : (blkAt (allB true l) 0).extract 1 64 = (blkAt (allB false l) 0).extract 1 64 := by
  have h : ∀ m, (blkAt (allB m l) 0).data.toList = (allB m l).take 64 := fun m => by simp [blkAt]
  rw [Lib.extract_eq, Lib.extract_eq, h, h]
  have : ∀ m, ((allB m l).take 64).drop 1 = ((allB m l).drop 1).take 63 := fun m => by rw [List.drop_take]
  rw [this true, this false, all_tail]
end Go.Proofs.YtjiphalannmcnaaDoor.REC
