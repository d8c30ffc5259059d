/- The walks of the reference's store: what writes. -/
import Derived.Test.YtdapcahphaldjaaStoreR
namespace Go.Proofs.Ytdapcahphaldjaa.Store
open Go.RowKit
set_option linter.unusedVariables false
set_option linter.unusedSimpArgs false
structure RC (R g cap n : Nat) (s : SS) (w : World) : Prop where
  c0 : w.cell? ⟨R, 0, none⟩ = some (.slice (some ⟨g, 0, none⟩) n cap)
  c1 : w.cell? ⟨R, 1, none⟩ = some (.int .i64 s.left)
  c2 : w.cell? ⟨R, 2, none⟩ = some (.int .i64 s.torn)
  c3 : w.cell? ⟨R, 3, none⟩ = some (.bool s.down)
  c4 : w.cell? ⟨R, 4, none⟩ = some (.int .i64 s.many)
  f1 : w.frozen? ⟨R, 1, none⟩ = false
  f2 : w.frozen? ⟨R, 2, none⟩ = false
  f3 : w.frozen? ⟨R, 3, none⟩ = false
  f4 : w.frozen? ⟨R, 4, none⟩ = false
section
variable {R g cap n : Nat} {s : SS} {w w' : World}
theorem RW.c (h : RW R g cap n s w) : RC R g cap n s w := ⟨h.bs.cell 0, h.bs.cell 1, h.bs.cell 2, h.bs.cell 3, h.bs.cell 4, h.bs.frozen 1, h.bs.frozen 2, h.bs.frozen 3, h.bs.frozen 4⟩
theorem RW.fr (h : RW R g cap n s w) {F : Nat → Prop} (hf : Fr F w w') (hs : ¬ F R) (hg : ¬ F g) : RW R g cap n s w' :=
  ⟨h.bs.fr hf hs, own_fr h.own hf (fun k e => by
    have : g = k := by simpa [Value.ownBlock] using e
    rw [← this]; exact hg), h.ne, h.len, h.all, h.lo, h.hi⟩
theorem RW.gne (h : RW R g cap n s w) : ∀ k, (Value.slice (some ⟨g, 0, none⟩) n cap).ownBlock = some k → k ≠ R := fun k e => by
  have : g = k := by simpa [Value.ownBlock] using e
  have := h.ne
  omega
theorem RW.setLeft (h : RW R g cap n s w) (x : Int) : RW R g cap n { s with left := x } (w.setCell ⟨R, 1, none⟩ (.int .i64 x)) :=
  ⟨by simpa using h.bs.set_ 1 (.int .i64 x), own_set h.own h.gne _, h.ne, h.len, h.all, h.lo, h.hi⟩
theorem RW.setTorn (h : RW R g cap n s w) (x : Int) : RW R g cap n { s with torn := x } (w.setCell ⟨R, 2, none⟩ (.int .i64 x)) :=
  ⟨by simpa using h.bs.set_ 2 (.int .i64 x), own_set h.own h.gne _, h.ne, h.len, h.all, h.lo, h.hi⟩
theorem RW.setDown (h : RW R g cap n s w) (x : Bool) : RW R g cap n { s with down := x } (w.setCell ⟨R, 3, none⟩ (.bool x)) :=
  ⟨by simpa using h.bs.set_ 3 (.bool x), own_set h.own h.gne _, h.ne, h.len, h.all, h.lo, h.hi⟩
theorem RW.setMany (h : RW R g cap n s w) (x : Int) : RW R g cap n { s with many := x } (w.setCell ⟨R, 4, none⟩ (.int .i64 x)) :=
  ⟨by simpa using h.bs.set_ 4 (.int .i64 x), own_set h.own h.gne _, h.ne, h.len, h.all, h.lo, h.hi⟩
theorem RW.setB (h : RW R g cap n s w) {i : Nat} (hi : i < n) (b : ByteArray) (hb : b.size = 64) : RW R g cap n { s with bl := s.bl.set i b } (w.setCell ⟨g, i, none⟩ (.string b)) := by
  refine ⟨h.bs.far (by simpa using h.ne) _, ?_, h.ne, by simp [h.len], h.all.set hb i, h.lo, h.hi⟩
  have := h.own.stored i (.string b)
  rw [show strs (s.bl.set i b) = (strs s.bl).set i (.string b) by simp [strs, List.map_set]]
  exact this.1
theorem RW.at_ (h : RW R g cap n s w) {i : Nat} (hi : i < n) {b : ByteArray} (hb : s.bl[i]? = some b) : w.cell? ⟨g, i, none⟩ = some (.string b) := by
  rw [h.own.cellAt i (by omega)]
  simp [strs, hb]
theorem RW.fz (h : RW R g cap n s w) (i : Nat) : w.frozen? ⟨g, i, none⟩ = false := h.own.frozenAt i
theorem RW.drew (h : RW R g cap n s w) : RW R g cap n s w.drew := ⟨h.bs, h.own, h.ne, h.len, h.all, h.lo, h.hi⟩
theorem rfr_set (w : World) (R g i : Nat) (v : Value) : Fr (Two R g) w (w.setCell ⟨R, i, none⟩ v) := (Fr.refl _ w).setCell (fun _ => .inl rfl) v
theorem rfr_row (w : World) (R g i : Nat) (v : Value) : Fr (Two R g) w (w.setCell ⟨g, i, none⟩ v) := (Fr.refl _ w).setCell (fun _ => .inr rfl) v
end
def RetR (R g cap n : Nat) (s : SS) (w : World) (x : Int) (e : Ending) (w' : World) : Prop := e = .returned (.int .i64 x) ∧ RW R g cap n s w' ∧ Fr (Two R g) w w'

theorem rrestart_any (R g cap n : Nat) (s : SS) (w : World) (h : RW R g cap n s w) : Calls Try.prog 49 #[.pointer (some ⟨R, 0, none⟩)] w fun e w' => e = .returned (.tuple #[]) ∧ RW R g cap n s.restart w' ∧ Fr (Two R g) w w' := by
  have HS := Lib.hid h
  obtain ⟨c0, c1, c2, c3, c4, f1, f2, f3, f4⟩ := h.c
  clear h
  go_enter Try.func49, Try.ntmps49
  go_wp2_with fail
  go_end0
  exact ⟨rfl, (HS.out.setLeft (-1)).setDown false, (rfr_set w R g 1 _).trans (rfr_set _ R g 3 _)⟩
theorem rfuse_any (R g cap n : Nat) (x t : Int) (s : SS) (w : World) (h : RW R g cap n s w) : Calls Try.prog 48 #[.pointer (some ⟨R, 0, none⟩), .int .i64 x, .int .i64 t] w fun e w' => e = .returned (.tuple #[]) ∧ RW R g cap n (s.fuse x t) w' ∧ Fr (Two R g) w w' := by
  have HS := Lib.hid h
  obtain ⟨c0, c1, c2, c3, c4, f1, f2, f3, f4⟩ := h.c
  clear h
  by_cases c : x < 0
  · have hm := Lib.hid (show max x (-1) = -1 by omega)
    go_enter Try.func48, Try.ntmps48
    go_wp2_with fail
    go_end0
    refine ⟨rfl, ?_, ((rfr_set w R g 1 _).trans (rfr_set _ R g 1 _)).trans (rfr_set _ R g 2 _)⟩
    unfold SS.fuse
    rw [hm.out]
    exact ((HS.out.setLeft x).setLeft (-1)).setTorn t
  · have hm := Lib.hid (show max x (-1) = x by omega)
    go_enter Try.func48, Try.ntmps48
    go_wp2_with fail
    go_end0
    refine ⟨rfl, ?_, (rfr_set w R g 1 _).trans (rfr_set _ R g 2 _)⟩
    unfold SS.fuse
    rw [hm.out]
    exact (HS.out.setLeft x).setTorn t
set_option maxHeartbeats 1000000 in
set_option maxRecDepth 100000 in
theorem rwrite_arg (R g cap n : Nat) (i : Int) (b : ByteArray) (s : SS) (w : World) (h : RW R g cap n s w) (hi : i < 0 ∨ (n : Int) ≤ i ∨ b.size ≠ 64) :
    Calls Try.prog 47 #[.pointer (some ⟨R, 0, none⟩), .int .i64 i, .string b] w (RetR R g cap n s w 1) := by
  have HS := Lib.hid h
  have hn := h.hi
  obtain ⟨c0, c1, c2, c3, c4, f1, f2, f3, f4⟩ := h.c
  clear h c1 c2 c3 c4 f1 f2 f3 f4
  by_cases c : i < 0
  · clear hi
    go_enter Try.func47, Try.ntmps47
    go_wp2_with fail
    go_ret
    exact ⟨rfl, HS.out, Fr.refl _ _⟩
  · by_cases d : (n : Int) ≤ i
    · have d1 : decide ((n : Int) ≤ i) = true := by simpa using d
      have d0 : 0 ≤ i := by omega
      clear hi c d
      go_enter Try.func47, Try.ntmps47
      go_wp2_with fail
      go_ret
      exact ⟨rfl, HS.out, Fr.refl _ _⟩
    · have d1 : decide ((n : Int) ≤ i) = false := by simpa using d
      have d0 : 0 ≤ i := by omega
      have hb : ((b.size : Int) == 64) = false := by simp; omega
      have hb2 : ((b.size : Int) != 64) = true := by simp; omega
      clear hi c d
      go_enter Try.func47, Try.ntmps47
      go_wp2_with fail
      go_ret
      exact ⟨rfl, HS.out, Fr.refl _ _⟩
set_option maxHeartbeats 1000000 in
set_option maxRecDepth 100000 in
theorem rwrite_down (R g cap n i : Nat) (b : ByteArray) (s : SS) (w : World) (h : RW R g cap n s w) (hj : i < n) (hb : b.size = 64) (hd : s.down = true) :
    Calls Try.prog 47 #[.pointer (some ⟨R, 0, none⟩), .int .i64 (i : Int), .string b] w (RetR R g cap n s w 9) := by
  have HS := Lib.hid h
  have hn := h.hi
  obtain ⟨c0, c1, c2, c3, c4, f1, f2, f3, f4⟩ := h.c
  rw [hd] at c3
  have hb1 : ((b.size : Int) == 64) = true := by simp [hb]
  have hb2 : ((b.size : Int) != 64) = false := by simp [hb]
  clear h hd hb
  go_enter Try.func47, Try.ntmps47
  go_wp2_with fail
  go_ret
  exact ⟨rfl, HS.out, Fr.refl _ _⟩
set_option maxHeartbeats 1000000 in
set_option maxRecDepth 100000 in
theorem rwrite_ok (R g cap n i : Nat) (b : ByteArray) (s : SS) (w : World) (h : RW R g cap n s w) (hj : i < n) (hb : b.size = 64) (hd : s.down = false) (hl : s.left ≠ 0) (hl2 : I64' s.left) (hm : I64' (s.many + 1)) (hm0 : 0 ≤ s.many) (old : ByteArray) (ho : s.bl[i]? = some old) :
    Calls Try.prog 47 #[.pointer (some ⟨R, 0, none⟩), .int .i64 (i : Int), .string b] w (RetR R g cap n { s with bl := s.bl.set i b, left := if 0 < s.left then s.left - 1 else s.left, many := s.many + 1 } w 0) := by
  have HS := Lib.hid h
  have hn := h.hi
  obtain ⟨c0, c1, c2, c3, c4, f1, f2, f3, f4⟩ := h.c
  have e1 := h.at_ hj ho
  have e2 := h.fz i
  have hne := h.ne
  rw [hd] at c3
  have hb1 : ((b.size : Int) == 64) = true := by simp [hb]
  have hb2 : ((b.size : Int) != 64) = false := by simp [hb]
  have hle : (s.left == 0) = false := by simpa using hl
  have HB := Lib.hid hb
  have hne2 := hne.symm
  have g0 : (0 : Int) ≤ (i : Int) := Int.natCast_nonneg _
  have g1 : (i : Int) < (n : Int) := by omega
  obtain ⟨hl3, hl4⟩ := hl2
  obtain ⟨hm1, hm2⟩ := hm
  clear h hd hb ho
  by_cases c : 0 < s.left
  all_goals
    go_enter Try.func47, Try.ntmps47
    go_wp2_with fail
    go_ret
  · exact ⟨rfl, (((HS.out.setLeft (s.left - 1)).setB hj b HB.out).setMany (s.many + 1)), ((rfr_set w R g 1 _).trans (rfr_row _ R g i _)).trans (rfr_set _ R g 4 _)⟩
  · exact ⟨rfl, ((HS.out.setB hj b HB.out).setMany (s.many + 1)), (rfr_row _ R g i _).trans (rfr_set _ R g 4 _)⟩
set_option maxHeartbeats 1000000 in
set_option maxRecDepth 100000 in
theorem rwrite_torn (R g cap n i q : Nat) (b : ByteArray) (s : SS) (w : World) (h : RW R g cap n s w) (hj : i < n) (hb : b.size = 64) (hd : s.down = false) (hl : s.left = 0) (ht : I64' s.torn) (old : ByteArray) (ho : s.bl[i]? = some old) (hq : cut s.torn = q) :
    Calls Try.prog 47 #[.pointer (some ⟨R, 0, none⟩), .int .i64 (i : Int), .string b] w (RetR R g cap n { s with bl := s.bl.set i (torn b old q), down := true } w 9) := by
  have HS := Lib.hid h
  have hn := h.hi
  have ho64 : old.size = 64 := by
    have := List.getElem?_eq_some_iff.1 ho
    obtain ⟨hk, e⟩ := this
    rw [← e]; exact h.all _ (List.getElem_mem _)
  obtain ⟨c0, c1, c2, c3, c4, f1, f2, f3, f4⟩ := h.c
  have e1 := h.at_ hj ho
  have e2 := h.fz i
  rw [hd] at c3
  rw [hl] at c1
  have hb1 : ((b.size : Int) == 64) = true := by simp [hb]
  have hb2 : ((b.size : Int) != 64) = false := by simp [hb]
  have hne := h.ne
  have hne2 := hne.symm
  have hq64 : q ≤ 64 := by rw [← hq]; exact cut_le _
  have HT := Lib.hid (show b.extract 0 q ++ old.extract q old.size = torn b old q by rw [ho64]; rfl)
  have HTS := Lib.hid (torn_size hb ho64 hq64)
  have hbq : (q : Int) ≤ (b.size : Int) := by omega
  have hoq : (q : Int) ≤ (old.size : Int) := by omega
  have g0 : (0 : Int) ≤ (i : Int) := Int.natCast_nonneg _
  have g1 : (i : Int) < (n : Int) := by omega
  have hcs : (s.torn < 0 ∧ q = 0) ∨ (64 < s.torn ∧ q = 64) ∨ (s.torn = (q : Int)) := by unfold cut at hq; omega
  have hol : ¬ (9223372036854775807 < old.size) := by omega
  have hol2 : ¬ (9223372036854775807 < min 64 b.size + (old.size - 64)) := by omega
  have hol3 : ¬ (9223372036854775807 < min q b.size + (old.size - q)) := by omega
  have hbl : (64 : Int) ≤ (b.size : Int) := by omega
  have hbl2 : (64 : Int) ≤ (old.size : Int) := by omega
  clear h hd hb ho ho64 hl hq
  rcases hcs with ⟨k1, rfl⟩ | ⟨k1, rfl⟩ | k1
  · go_enter Try.func47, Try.ntmps47
    go_wp2_with fail
    go_region_law (fail)
    all_goals
      go_wp2_with fail
      go_ret
      refine ⟨rfl, ?_, ((rfr_row w R g i _).trans (rfr_set _ R g 3 _)).drew⟩
      rw [← HT.out]
      have hts := HTS.out
      rw [← HT.out] at hts
      simp only [ByteArray.extract_zero_size] at hts ⊢
      first | exact ((HS.out.setB hj _ hts).setDown true).drew | (simp at hts ⊢; exact ((HS.out.setB hj _ hts).setDown true).drew)
  · go_enter Try.func47, Try.ntmps47
    go_wp2_with fail
    go_region_law (fail)
    all_goals
      go_wp2_with fail
      go_ret
      refine ⟨rfl, ?_, ((rfr_row w R g i _).trans (rfr_set _ R g 3 _)).drew⟩
      rw [← HT.out]
      have hts := HTS.out
      rw [← HT.out] at hts
      exact ((HS.out.setB hj _ hts).setDown true).drew
  · rw [k1] at c2
    clear k1
    go_enter Try.func47, Try.ntmps47
    go_wp2_with fail
    go_region_law (fail)
    all_goals
      go_wp2_with fail
      go_ret
      refine ⟨rfl, ?_, ((rfr_row w R g i _).trans (rfr_set _ R g 3 _)).drew⟩
      rw [← HT.out]
      have hts := HTS.out
      rw [← HT.out] at hts
      exact ((HS.out.setB hj _ hts).setDown true).drew
end Go.Proofs.Ytdapcahphaldjaa.Store
