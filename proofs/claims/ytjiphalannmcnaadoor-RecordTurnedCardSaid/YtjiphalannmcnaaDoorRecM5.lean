/- A byte that is turned is found: plain. -/
import Derived.Test.YtjiphalannmcnaaDoorRecM4
namespace Go.Proofs.YtjiphalannmcnaaDoor.REC
open Go.RowKit
set_option linter.unusedVariables false
set_option linter.unusedSimpArgs false

theorem xor_ne {x b : UInt8} (h : b ≠ 0) : x ^^^ b ≠ x := fun e => h (by
  have h1 := congrArg UInt8.toBitVec e
  rw [UInt8.toBitVec_xor] at h1
  have h2 : x.toBitVec ^^^ (x.toBitVec ^^^ b.toBitVec) = x.toBitVec ^^^ x.toBitVec := congrArg (fun z => x.toBitVec ^^^ z) h1
  rw [← BitVec.xor_assoc, BitVec.xor_self, BitVec.zero_xor] at h2
  exact UInt8.toBitVec_inj.1 h2)
/-- Blocks of any bytes. -/
def blks (a : List UInt8) (K : Nat) : List ByteArray := (List.range K).map (blkAt a)
section
variable {a : List UInt8} {K : Nat}
theorem blks_len : (blks a K).length = K := by simp [blks]
theorem blks_all (h : a.length = K * 64) : All64 (blks a K) := by
  intro b hb
  obtain ⟨k, hk, rfl⟩ := List.mem_map.1 hb
  exact blk_size h (List.mem_range.1 hk)
theorem blks_ne (h : 1 ≤ K) : blks a K ≠ [] := fun e => by
  have := blks_len (a := a) (K := K)
  rw [e] at this
  simp at this
  omega
theorem blks_cat (h : a.length = K * 64) : cat (blks a K) = a := by
  unfold blks
  rw [cat_blk, List.take_of_length_le (by omega)]
theorem blks_hd (h : 1 ≤ K) : hd0 (blks a K) = blkAt a 0 := hd0_blk h
theorem blks_bAt (h : 1 ≤ K) {i : Nat} (hi : i < 64) : bAt (hd0 (blks a K)) i = (a.getD i 0).toNat := by rw [blks_hd h, bAt_blk _ hi]
theorem blks_sz (h : a.length = K * 64) (h1 : 1 ≤ K) : (hd0 (blks a K)).size = 64 := by rw [blks_hd h1]; exact blk_size h h1
end
theorem getD_set {a : List UInt8} {k i : Nat} {x : UInt8} (hk : k < a.length) : (a.set k x).getD i 0 = if i = k then x else a.getD i 0 := by
  rw [List.getD_eq_getElem?_getD, List.getElem?_set]
  by_cases h : k = i
  · subst h
    rw [if_pos rfl, if_pos hk, if_pos rfl]
    rfl
  · rw [if_neg h, if_neg (Ne.symm h), List.getD_eq_getElem?_getD]
/-- A block in which a byte is turned. -/
theorem blk_set {a : List UInt8} {k j : Nat} {x : UInt8} : blkAt (a.set k x) j = if j = k / 64 then ⟨((blkAt a j).data.toList.set (k % 64) x).toArray⟩ else blkAt a j := by
  have hd : ∀ c : List UInt8, (blkAt c j).data.toList = (c.drop (j * 64)).take 64 := fun c => by simp [blkAt]
  unfold blkAt
  by_cases h : j = k / 64
  · rw [if_pos h, List.drop_set, if_neg (by omega), List.take_set, show k - j * 64 = k % 64 by omega]
  · rw [if_neg h, List.drop_set]
    by_cases h2 : k < j * 64
    · rw [if_pos h2]
    · rw [if_neg h2, List.take_set, List.set_eq_of_length_le (by rw [List.length_take]; omega)]
theorem blks_set {a : List UInt8} {K k : Nat} {x : UInt8} (hk : k / 64 < K) : blks (a.set k x) K = (blks a K).set (k / 64) ⟨((blkAt a (k / 64)).data.toList.set (k % 64) x).toArray⟩ := by
  refine List.ext_getElem (by simp [blks]) fun j h1 h2 => ?_
  simp only [blks, List.getElem_map, List.getElem_range, List.getElem_set]
  rw [blk_set]
  by_cases h : j = k / 64
  · subst h; simp
  · rw [if_neg h, if_neg (Ne.symm h)]
/-! ### What is found -/
theorem all_pad (m : Bool) {l : List UInt8} {k : Nat} (h : 7 + l.length ≤ k) : (allB m l).getD k 0 = 0 := by
  unfold allB
  rw [List.getD_eq_getElem?_getD, List.getElem?_append_right (by simp [head7]; omega), List.getElem?_replicate]
  split <;> rfl
theorem all_body (m : Bool) (l : List UInt8) : ((allB m l).drop 7).take l.length = l := by rw [all_drop]; simp
theorem chk_set {l : List UInt8} {i : Nat} {x : UInt8} (hi : i < l.length) (hx : x ≠ l[i]) : chk (l.set i x) ≠ chk l := by
  have h1 : l.set i x = l.take i ++ x :: l.drop (i + 1) := by rw [List.set_eq_take_append_cons_drop, if_pos hi]
  have h2 : l = l.take i ++ l[i] :: l.drop (i + 1) := by rw [← List.drop_eq_getElem_cons hi, List.take_append_drop]
  rw [h1]
  intro e
  exact chk_other hx (e.trans (congrArg chk h2))
structure Turn (l : List UInt8) (K k : Nat) (x : UInt8) : Prop where
  hl : l.length ≤ 3000
  hK : many l.length = K
  hk : k < K * 64
  hx : x ≠ (allB true l).getD k 0
section
variable {l : List UInt8} {K k : Nat} {x : UInt8}
theorem Turn.one (h : Turn l K k x) : 1 ≤ K ∧ 7 + l.length ≤ K * 64 := by
  have := many_room l.length
  rw [h.hK] at this
  exact ⟨this.2, this.1⟩
theorem Turn.al (h : Turn l K k x) : (allB true l).length = K * 64 := by rw [allB_len, h.hK]
theorem Turn.al2 (h : Turn l K k x) : ((allB true l).set k x).length = K * 64 := by rw [List.length_set]; exact h.al
theorem Turn.get (h : Turn l K k x) (i : Nat) : ((allB true l).set k x).getD i 0 = if i = k then x else (allB true l).getD i 0 := getD_set (by rw [h.al]; exact h.hk)
theorem Turn.byte (h : Turn l K k x) {i : Nat} (hi : i < 64) : bAt (hd0 (blks ((allB true l).set k x) K)) i = (if i = k then x else (allB true l).getD i 0).toNat := by
  rw [blks_bAt h.one.1 hi, h.get]
theorem Turn.head (h : Turn l K k x) (h3 : 3 ≤ k) : hdB (hd0 (blks ((allB true l).set k x) K)) = true ∧ hdN (hd0 (blks ((allB true l).set k x) K)) = (l.length : Int) ∧ hdE (hd0 (blks ((allB true l).set k x) K)) = 0 := by
  have b0 : bAt (hd0 (blks ((allB true l).set k x) K)) 0 = 1 := by
    rw [h.byte (by omega), if_neg (by omega), all_get true l (by omega)]; rfl
  have b1 : bAt (hd0 (blks ((allB true l).set k x) K)) 1 = (hb (l.length / 256)).toNat := by
    rw [h.byte (by omega), if_neg (by omega), all_get true l (by omega)]; rfl
  have b2 : bAt (hd0 (blks ((allB true l).set k x) K)) 2 = (hb l.length).toNat := by
    rw [h.byte (by omega), if_neg (by omega), all_get true l (by omega)]; rfl
  have hl := h.hl
  rw [hb_nat] at b1 b2
  have e : bAt (hd0 (blks ((allB true l).set k x) K)) 1 * 256 + bAt (hd0 (blks ((allB true l).set k x) K)) 2 = l.length := by rw [b1, b2]; omega
  obtain ⟨g1, g2, g3⟩ := hd_good (blks_sz h.al2 h.one.1) b0 (by omega)
  exact ⟨g1, by rw [g2, e], g3⟩
theorem Turn.fits (h : Turn l K k x) : (K : Int) = blkN (l.length : Int) := by
  have := h.hK
  have hl := h.hl
  unfold blkN
  rw [if_neg (by omega), ← this]
  unfold many
  omega
/-- Behind the length: the sum, the bytes or the rest are other ones. -/
theorem turned_far (h : Turn l K k x) (h3 : 3 ≤ k) : jnE (blks ((allB true l).set k x) K) = 8 := by
  obtain ⟨g1, g2, g3⟩ := h.head h3
  have hl := h.hl
  have hcat := blks_cat h.al2
  refine jn_sum (blks_ne h.one.1) (blks_all h.al2) g3 (by
    rw [g1, g2, blks_len]
    rintro (c | c)
    · cases c
    · exact c h.fits) ?_
  have hbody : body (blks ((allB true l).set k x) K) = (((allB true l).set k x).drop 7).take l.length := by
    unfold body
    rw [hcat, g2]
    simp
  have hsl := sum_lay true l
  rw [hbody, hcat]
  by_cases h7 : k < 7
  · left
    rw [List.drop_set, if_pos h7, all_body]
    intro e
    rw [← hsl] at e
    unfold sumB at e
    rw [h.get, h.get, h.get, h.get] at e
    have hxn : x.toNat ≠ ((allB true l).getD k 0).toNat := fun c => h.hx (UInt8.toNat_inj.1 c)
    have l3 := ((allB true l).getD 3 0).toNat_lt
    have l4 := ((allB true l).getD 4 0).toNat_lt
    have l5 := ((allB true l).getD 5 0).toNat_lt
    have l6 := ((allB true l).getD 6 0).toNat_lt
    have lx := x.toNat_lt
    obtain rfl | rfl | rfl | rfl : k = 3 ∨ k = 4 ∨ k = 5 ∨ k = 6 := by omega
    · simp at e hxn; omega
    · simp at e hxn; omega
    · simp at e hxn; omega
    · simp at e hxn; omega
  · have hsum : sumB ((allB true l).set k x) = (chk l).toNat := by
      rw [← hsl]
      unfold sumB
      rw [h.get, h.get, h.get, h.get, if_neg (by omega), if_neg (by omega), if_neg (by omega), if_neg (by omega)]
    rw [hsum, List.drop_set, if_neg h7, List.take_set, all_body]
    by_cases hn : k - 7 < l.length
    · left
      intro e
      refine chk_set hn (fun c => h.hx ?_) (BitVec.eq_of_toNat_eq e)
      rw [c]
      have : (allB true l).getD k 0 = ((allB true l).drop 7).getD (k - 7) 0 := by
        rw [List.getD_eq_getElem?_getD, List.getD_eq_getElem?_getD, List.getElem?_drop, show 7 + (k - 7) = k by omega]
      rw [this, all_drop, List.getD_eq_getElem?_getD, List.getElem?_append_left hn, List.getElem?_eq_getElem hn]
      rfl
    · right
      unfold tail0
      rw [hcat, g2]
      intro c
      have hz := all_pad true (l := l) (k := k) (by omega)
      have hxz : x ≠ 0 := fun e => h.hx (by rw [hz, e])
      refine hxz (c x ?_)
      rw [show 7 + ((l.length : Int)).toNat = 7 + l.length by simp, List.drop_set, if_neg (by omega)]
      exact List.mem_set (by rw [List.length_drop, h.al]; have := h.hk; omega) x
/-- In the mark or the length: nothing is told, or other bytes. -/
theorem turned_near (h : Turn l K k x) (h3 : k < 3) : jnE (blks ((allB true l).set k x) K) ≠ 0 ∨ (0 < k ∧ (jnS (blks ((allB true l).set k x) K)).size ≠ l.length) := by
  by_cases he : jnE (blks ((allB true l).set k x) K) = 0
  rotate_left
  · exact .inl he
  · right
    have hl := h.hl
    have hsz := blks_sz h.al2 h.one.1
    have hne := blks_ne (a := (allB true l).set k x) h.one.1
    have hall := blks_all h.al2
    have hE : hdE (hd0 (blks ((allB true l).set k x) K)) = 0 := Classical.byContradiction fun c => c ((jn_head hne hall c).symm.trans he)
    have hM : ¬ (hdB (hd0 (blks ((allB true l).set k x) K)) = false ∨ ((blks ((allB true l).set k x) K).length : Int) ≠ blkN (hdN (hd0 (blks ((allB true l).set k x) K)))) := fun c => by
      have := (jn_mark hne hall hE c).symm.trans he
      omega
    have hB : hdB (hd0 (blks ((allB true l).set k x) K)) = true := by
      cases hz : hdB (hd0 (blks ((allB true l).set k x) K)) with
      | true => rfl
      | false => exact absurd (.inl hz) hM
    have hB2 := hB
    unfold hdB at hB2
    rw [decide_eq_true_eq] at hB2
    obtain ⟨_, q0, q1⟩ := hB2
    obtain ⟨_, g2, _⟩ := hd_good hsz q0 q1
    have hK2 : ((K : Nat) : Int) = blkN (hdN (hd0 (blks ((allB true l).set k x) K))) := Classical.byContradiction fun c => hM (.inr (by rw [blks_len]; exact c))
    have hk0 : 0 < k := by
      rcases Nat.eq_zero_or_pos k with c | c
      · subst c
        rw [h.byte (by omega), if_pos rfl] at q0
        exact absurd (UInt8.toNat_inj.1 (show x.toNat = (1 : UInt8).toNat from q0)) (fun e => h.hx (by rw [e, all_get true l (by omega)]; rfl))
      · exact c
    refine ⟨hk0, ?_⟩
    have hS : jnS (blks ((allB true l).set k x) K) = ⟨(body (blks ((allB true l).set k x) K)).toArray⟩ := by unfold jnS; rw [if_pos he]
    rw [hS, Lib.size_mk]
    unfold body
    rw [blks_cat h.al2, g2, Int.toNat_natCast, List.length_take, List.length_drop, h.al2]
    rw [g2] at hK2
    unfold blkN at hK2
    have hK1 := h.one
    have hv : bAt (hd0 (blks ((allB true l).set k x) K)) 1 * 256 + bAt (hd0 (blks ((allB true l).set k x) K)) 2 ≠ l.length := by
      have hxn : x.toNat ≠ ((allB true l).getD k 0).toNat := fun c => h.hx (UInt8.toNat_inj.1 c)
      have lx := x.toNat_lt
      have a1 : ((allB true l).getD 1 0).toNat = l.length / 256 % 256 := by rw [all_get true l (by omega), ← hb_nat]; rfl
      have a2 : ((allB true l).getD 2 0).toNat = l.length % 256 := by rw [all_get true l (by omega), ← hb_nat]; rfl
      rw [h.byte (by omega), h.byte (by omega)]
      obtain rfl | rfl : k = 1 ∨ k = 2 := by omega
      · rw [if_pos rfl, if_neg (by omega), a2]
        rw [a1] at hxn
        omega
      · rw [if_neg (by omega), if_pos rfl, a1]
        rw [a2] at hxn
        omega
    split at hK2
    · omega
    · omega
end
end Go.Proofs.YtjiphalannmcnaaDoor.REC
