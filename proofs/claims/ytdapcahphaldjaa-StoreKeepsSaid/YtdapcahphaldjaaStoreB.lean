/- The walks of the program's store: what writes. -/
import Derived.Test.YtdapcahphaldjaaStoreA
namespace Go.Proofs.Ytdapcahphaldjaa.Store
open Go.RowKit
set_option linter.unusedVariables false
set_option linter.unusedSimpArgs false
section
variable {S G n : Nat} {s : SS} {w : World}
theorem fr_set (w : World) (S G i : Nat) (v : Value) : Fr (Two S G) w (w.setCell ⟨S, i, none⟩ v) := (Fr.refl _ w).setCell (fun _ => .inl rfl) v
theorem StW.setLeft (h : StW S G n s w) (x : Int) : StW S G n { s with left := x } (w.setCell ⟨S, 1, none⟩ (.int .i64 x)) :=
  ⟨by simpa using h.bs.set_ 1 (.int .i64 x), h.bg.far (fun e => h.ne e.symm) _, h.ne, h.len, h.all, h.lo, h.hi⟩
theorem StW.setTorn (h : StW S G n s w) (x : Int) : StW S G n { s with torn := x } (w.setCell ⟨S, 2, none⟩ (.int .i64 x)) :=
  ⟨by simpa using h.bs.set_ 2 (.int .i64 x), h.bg.far (fun e => h.ne e.symm) _, h.ne, h.len, h.all, h.lo, h.hi⟩
theorem StW.setDown (h : StW S G n s w) (x : Bool) : StW S G n { s with down := x } (w.setCell ⟨S, 3, none⟩ (.bool x)) :=
  ⟨by simpa using h.bs.set_ 3 (.bool x), h.bg.far (fun e => h.ne e.symm) _, h.ne, h.len, h.all, h.lo, h.hi⟩
theorem StW.setMany (h : StW S G n s w) (x : Int) : StW S G n { s with many := x } (w.setCell ⟨S, 4, none⟩ (.int .i64 x)) :=
  ⟨by simpa using h.bs.set_ 4 (.int .i64 x), h.bg.far (fun e => h.ne e.symm) _, h.ne, h.len, h.all, h.lo, h.hi⟩
theorem StW.drew (h : StW S G n s w) : StW S G n s w.drew := ⟨h.bs, h.bg, h.ne, h.len, h.all, h.lo, h.hi⟩
theorem Fr.two {a b c : World} (h : Fr (Two S G) a b) (k : Fr (Two S G) b c) : Fr (Two S G) a c := h.trans k
end

theorem fuse_any (S G n : Nat) (x t : Int) (s : SS) (w : World) (h : StW S G n s w) (hx : I64' x) : Calls Try.prog 20 #[.pointer (some ⟨S, 0, none⟩), .int .i64 x, .int .i64 t] w fun e w' => e = .returned (.tuple #[]) ∧ StW S G n (s.fuse x t) w' ∧ Fr (Two S G) w w' := by
  have HS := Lib.hid h
  obtain ⟨c0, c1, c2, c3, c4, f1, f2, f3, f4⟩ := h.c
  clear h
  go_enter Try.func20, Try.ntmps20
  go_wp2_with fail
  go_end0
  exact ⟨rfl, (HS.out.setLeft (max x (-1))).setTorn t, (fr_set w S G 1 _).trans (fr_set _ S G 2 _)⟩

theorem restart_any (S G n : Nat) (s : SS) (w : World) (h : StW S G n s w) : Calls Try.prog 21 #[.pointer (some ⟨S, 0, none⟩)] w fun e w' => e = .returned (.tuple #[]) ∧ StW S G n s.restart w' ∧ Fr (Two S G) w w' := by
  have HS := Lib.hid h
  obtain ⟨c0, c1, c2, c3, c4, f1, f2, f3, f4⟩ := h.c
  clear h
  go_enter Try.func21, Try.ntmps21
  go_wp2_with fail
  go_end0
  exact ⟨rfl, (HS.out.setLeft (-1)).setDown false, (fr_set w S G 1 _).trans (fr_set _ S G 3 _)⟩
theorem writes_any (S G n : Nat) (s : SS) (w : World) (h : StW S G n s w) : Calls Try.prog 23 #[.pointer (some ⟨S, 0, none⟩)] w fun e w' => e = .returned (.int .i64 s.many) ∧ w = w' := by
  obtain ⟨c0, c1, c2, c3, c4, f1, f2, f3, f4⟩ := h.c
  clear h
  go_enter Try.func23, Try.ntmps23
  go_wp2_with fail
  go_ret
  exact ⟨rfl, rfl⟩

set_option maxHeartbeats 1000000 in
set_option maxRecDepth 100000 in
theorem write_ok (S G n : Nat) (i : Nat) (b : ByteArray) (s : SS) (w : World) (h : StW S G n s w) (hj : i < n) (hb : b.size = 64) (hd : s.down = false) (hl : s.left ≠ 0) (hl2 : I64' s.left) (hm : I64' (s.many + 1)) (hm0 : 0 ≤ s.many) :
    Calls Try.prog 18 #[.pointer (some ⟨S, 0, none⟩), .int .i64 (i : Int), .string b] w (RetS S G n { s with bl := s.bl.set i b, left := if 0 < s.left then s.left - 1 else s.left, many := s.many + 1 } w 0) := by
  have HS := Lib.hid h
  obtain ⟨c0, c1, c2, c3, c4, f1, f2, f3, f4⟩ := h.c
  rw [hd] at c3
  have hb1 : ((b.size : Int) == 64) = true := by simp [hb]
  have hb2 : ((b.size : Int) != 64) = false := by simp [hb]
  have hle : (s.left == 0) = false := by simpa using hl
  have hn := h.hi
  have g0 : (0 : Int) ≤ (i : Int) := Int.natCast_nonneg _
  have g1 : (i : Int) < (n : Int) := by omega
  obtain ⟨hl3, hl4⟩ := hl2
  obtain ⟨hm1, hm2⟩ := hm
  have HB := Lib.hid hb
  clear h hd hb
  by_cases c : 0 < s.left
  · have h1 := HS.out.setLeft (s.left - 1)
    have hcp := h1.copied hj b b (by rw [HB.out]; omega) HB.out (whole_cells HB.out (h1.all _ (List.getElem_mem _)))
    generalize cells64 (({ s with left := s.left - 1 } : SS).bl.set i b) = cs at hcp
    obtain ⟨hrun, hst, hfr⟩ := hcp
    have HST := Lib.hid hst
    have HFR := Lib.hid ((fr_set w S G 1 (.int .i64 (s.left - 1))).trans hfr)
    have c4' := hst.c.c4
    have f4' := hst.c.f4
    have c0' := h1.c.c0
    clear hst hfr h1
    go_enter Try.func18, Try.ntmps18
    go_wp2_with fail
    refine (has_yes S G n i s _ HS.out hj).mono ?_
    rintro e w1 ⟨rfl, rfl⟩
    go_wp2_with fail
    go_ret
    exact ⟨rfl, HST.out.setMany _, HFR.out.trans (fr_set _ S G 4 _)⟩
  · have hcp := HS.out.copied hj b b (by rw [HB.out]; omega) HB.out (whole_cells HB.out (HS.out.all _ (List.getElem_mem _)))
    generalize cells64 (s.bl.set i b) = cs at hcp
    obtain ⟨hrun, hst, hfr⟩ := hcp
    have HST := Lib.hid hst
    have HFR := Lib.hid hfr
    have c4' := hst.c.c4
    have f4' := hst.c.f4
    clear hst hfr
    go_enter Try.func18, Try.ntmps18
    go_wp2_with fail
    refine (has_yes S G n i s _ HS.out hj).mono ?_
    rintro e w1 ⟨rfl, rfl⟩
    go_wp2_with fail
    go_ret
    exact ⟨rfl, HST.out.setMany _, HFR.out.trans (fr_set _ S G 4 _)⟩

set_option maxHeartbeats 1000000 in
set_option maxRecDepth 100000 in
theorem write_torn (S G n : Nat) (i : Nat) (b : ByteArray) (s : SS) (w : World) (h : StW S G n s w) (hj : i < n) (hb : b.size = 64) (hd : s.down = false) (hl : s.left = 0) (ht : I64' s.torn) (old : ByteArray) (ho : s.bl[i]? = some old) :
    Calls Try.prog 18 #[.pointer (some ⟨S, 0, none⟩), .int .i64 (i : Int), .string b] w (RetS S G n { s with bl := s.bl.set i (torn b old (cut s.torn)), down := true } w 9) := by
  have HS := Lib.hid h
  obtain ⟨c0, c1, c2, c3, c4, f1, f2, f3, f4⟩ := h.c
  rw [hd] at c3
  rw [hl] at c1
  have hb1 : ((b.size : Int) == 64) = true := by simp [hb]
  have hb2 : ((b.size : Int) != 64) = false := by simp [hb]
  have hn := h.hi
  have g0 : (0 : Int) ≤ (i : Int) := Int.natCast_nonneg _
  have g1 : (i : Int) < (n : Int) := by omega
  have ho' : s.bl[i]'(by rw [h.len]; exact hj) = old := by rw [List.getElem?_eq_getElem (by rw [h.len]; exact hj)] at ho; simpa using ho
  have ho64 : old.size = 64 := by rw [← ho']; exact h.all _ (List.getElem_mem _)
  have hcl := cut_le s.torn
  have HCP := Lib.hid (fun (w2 : World) (h : StW S G n s w2) => h.copied hj (b.extract 0 (cut s.torn)) (torn b old (cut s.torn)) (by rw [ext_size hb hcl]; exact hcl) (torn_size hb ho64 hcl) (by rw [ho']; exact torn_cells hb ho64 hcl))
  have hmm : min (max s.torn 0) 64 = ((cut s.torn : Nat) : Int) := by unfold cut; omega
  have hbs := hb
  generalize cells64 (s.bl.set i (torn b old (cut s.torn))) = cs at HCP
  generalize cut s.torn = q at *
  have hqb : (q : Int) ≤ (b.size : Int) := by omega
  clear h hd hb hl ho ho' ho64 hbs
  go_enter Try.func18, Try.ntmps18
  go_wp2_with fail
  refine (has_yes S G n i s _ HS.out hj).mono ?_
  rintro e w1 ⟨rfl, rfl⟩
  go_wp2_with fail
  go_still_tail 15, (by kernel_rfl)
  change wpList _ _ _ _ _ w.drew
  obtain ⟨hrun, hst, hfr⟩ := HCP.out w.drew HS.out.drew
  have HST := Lib.hid hst
  have HFR := Lib.hid (((Fr.refl (Two S G) w).drew).trans hfr)
  have c3' := hst.c.c3
  have f3' := hst.c.f3
  clear hst hfr
  generalize w.drew = w2 at hrun HST HFR c3' f3' ⊢
  go_wp2_with fail
  go_ret
  exact ⟨rfl, HST.out.setDown true, HFR.out.trans (fr_set _ S G 3 _)⟩
end Go.Proofs.Ytdapcahphaldjaa.Store
