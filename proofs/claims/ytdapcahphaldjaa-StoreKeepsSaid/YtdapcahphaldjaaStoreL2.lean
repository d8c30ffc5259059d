/- The store's statements: operations, the rest of them; the comparison of all blocks. -/
import Derived.Test.YtdapcahphaldjaaStoreL
namespace Go.Proofs.Ytdapcahphaldjaa.Store
open Go.RowKit
set_option linter.unusedVariables false
set_option linter.unusedSimpArgs false

set_option maxHeartbeats 1000000 in
set_option maxRecDepth 100000 in
theorem do_fuse (w0 : World) (S G n R g cap : Nat) (s : SS) (w : World) (at_ nn tt : Int) (b : ByteArray) (whole : Bool) (h : Both w0 S G n R g cap s s w) (hn : I64' nn) (ht : I64' tt) :
    Calls Try.prog 16 #[.pointer (some ⟨S, 0, none⟩), .pointer (some ⟨R, 0, none⟩), .agg #[.int .i64 1, .int .i64 at_, .int .i64 nn, .int .i64 tt, .string b, .bool whole]] w (DoRet w0 S G n R g cap (s.fuse nn tt) (s.fuse nn tt)) := by
  have HN := Lib.hid hn
  have HB0 := Lib.hid h
  have hlt := And.intro (And.intro h.st.lt1 h.st.lt2) (And.intro h.rw.lt1 h.rw.lt2)
  clear hn ht h
  have nX : ∀ A B, A < w.heap.size ∧ B < w.heap.size → ¬ Two A B w.heap.size := fun A B h e => by rcases e with e | e <;> omega
  go_enter Try.func16, Try.ntmps16
  go_wp2_with fail
  have HB := Lib.hid (HB0.out.later (alloc1 w (.cells #[.int .i64 1, .int .i64 at_, .int .i64 nn, .int .i64 tt, .string b, .bool whole] 32)))
  have HO := Lib.hid (BoxO.mk (Blk.new w 32 #[.int .i64 1, .int .i64 at_, .int .i64 nn, .int .i64 tt, .string b, .bool whole]))
  generalize (w.alloc (.cells #[.int .i64 1, .int .i64 at_, .int .i64 nn, .int .i64 tt, .string b, .bool whole] 32)) = W at HB HO ⊢
  obtain ⟨c0, c1, c2, c3, c4, c5⟩ := HO.out.c
  go_wp2_with fail
  refine (fuse_any S G n nn tt s _ HB.out.st HN.out).mono ?_
  rintro e w2 ⟨rfl, hst, hfr⟩
  have HB := Lib.hid (HB.out.setS hst hfr)
  have HO := Lib.hid (HO.out.fr hfr (nX _ _ hlt.1))
  clear hst hfr
  obtain ⟨c0, c1, c2, c3, c4, c5⟩ := HO.out.c
  go_wp2_with fail
  refine (rfuse_any R g cap n nn tt s _ HB.out.rw).mono ?_
  rintro e w3 ⟨rfl, hst, hfr⟩
  have HB := Lib.hid (HB.out.setR hst hfr)
  clear hst hfr
  go_wp2_with fail
  go_ret
  exact ⟨rfl, HB.out⟩
set_option maxHeartbeats 1000000 in
set_option maxRecDepth 100000 in
theorem do_restart (w0 : World) (S G n R g cap : Nat) (s : SS) (w : World) (at_ nn tt : Int) (b : ByteArray) (whole : Bool) (h : Both w0 S G n R g cap s s w) :
    Calls Try.prog 16 #[.pointer (some ⟨S, 0, none⟩), .pointer (some ⟨R, 0, none⟩), .agg #[.int .i64 2, .int .i64 at_, .int .i64 nn, .int .i64 tt, .string b, .bool whole]] w (DoRet w0 S G n R g cap s.restart s.restart) := by
  have HB0 := Lib.hid h
  have hlt := And.intro (And.intro h.st.lt1 h.st.lt2) (And.intro h.rw.lt1 h.rw.lt2)
  clear h
  have nX : ∀ A B, A < w.heap.size ∧ B < w.heap.size → ¬ Two A B w.heap.size := fun A B h e => by rcases e with e | e <;> omega
  go_enter Try.func16, Try.ntmps16
  go_wp2_with fail
  have HB := Lib.hid (HB0.out.later (alloc1 w (.cells #[.int .i64 2, .int .i64 at_, .int .i64 nn, .int .i64 tt, .string b, .bool whole] 32)))
  have HO := Lib.hid (BoxO.mk (Blk.new w 32 #[.int .i64 2, .int .i64 at_, .int .i64 nn, .int .i64 tt, .string b, .bool whole]))
  generalize (w.alloc (.cells #[.int .i64 2, .int .i64 at_, .int .i64 nn, .int .i64 tt, .string b, .bool whole] 32)) = W at HB HO ⊢
  obtain ⟨c0, c1, c2, c3, c4, c5⟩ := HO.out.c
  go_wp2_with fail
  refine (restart_any S G n s _ HB.out.st).mono ?_
  rintro e w2 ⟨rfl, hst, hfr⟩
  have HB := Lib.hid (HB.out.setS hst hfr)
  clear hst hfr
  go_wp2_with fail
  refine (rrestart_any R g cap n s _ HB.out.rw).mono ?_
  rintro e w3 ⟨rfl, hst, hfr⟩
  have HB := Lib.hid (HB.out.setR hst hfr)
  clear hst hfr
  go_wp2_with fail
  go_ret
  exact ⟨rfl, HB.out⟩
theorem StW.drewN {S G n : Nat} {s : SS} {w : World} (h : StW S G n s w) (q : Nat) : StW S G n s (w.drewN q) := ⟨h.bs, h.bg, h.ne, h.len, h.all, h.lo, h.hi⟩
theorem RW.drewN {R g cap n : Nat} {s : SS} {w : World} (h : RW R g cap n s w) (q : Nat) : RW R g cap n s (w.drewN q) := ⟨h.bs, h.own, h.ne, h.len, h.all, h.lo, h.hi⟩
theorem Both.drewN {w0 w : World} {S G n R g cap : Nat} {s r : SS} (h : Both w0 S G n R g cap s r w) (q : Nat) : Both w0 S G n R g cap s r (w.drewN q) :=
  ⟨h.st.drewN q, h.rw.drewN q, ⟨h.be.os, h.be.tape, h.be.output, h.be.size, h.be.block⟩, h.hS, h.hG, h.hR, h.hg, h.n1, h.n2, h.n3, h.n4⟩
set_option maxHeartbeats 1000000 in
set_option maxRecDepth 100000 in
theorem do_low (w0 : World) (S G n R g cap : Nat) (s : SS) (w : World) (dd at_ nn tt : Int) (b : ByteArray) (whole : Bool) (h : Both w0 S G n R g cap s s w) (hd : at_ < 0) (h0 : (dd == 0) = false) (h1 : (dd == 1) = false) (h2 : (dd == 2) = false) :
    Calls Try.prog 16 #[.pointer (some ⟨S, 0, none⟩), .pointer (some ⟨R, 0, none⟩), .agg #[.int .i64 dd, .int .i64 at_, .int .i64 nn, .int .i64 tt, .string b, .bool whole]] w (DoRet w0 S G n R g cap s s) := by
  have HC := Lib.hid (show at_ < 0 ∨ (n : Int) ≤ at_ from .inl hd)
  have hd1 : decide (at_ < 0) = true := by simpa using hd
  have HB0 := Lib.hid h
  have hn := h.st.hi
  clear h
  go_enter Try.func16, Try.ntmps16
  go_wp2_with fail
  have HB := Lib.hid (HB0.out.later (alloc1 w (.cells #[.int .i64 dd, .int .i64 at_, .int .i64 nn, .int .i64 tt, .string b, .bool whole] 32)))
  have HO := Lib.hid (BoxO.mk (Blk.new w 32 #[.int .i64 dd, .int .i64 at_, .int .i64 nn, .int .i64 tt, .string b, .bool whole]))
  generalize (w.alloc (.cells #[.int .i64 dd, .int .i64 at_, .int .i64 nn, .int .i64 tt, .string b, .bool whole] 32)) = W at HB HO ⊢
  obtain ⟨c0, c1, c2, c3, c4, c5⟩ := HO.out.c
  go_wp2_with fail
  refine (read_bad S G n at_ s _ HB.out.st HC.out).mono ?_
  rintro e w2 ⟨rfl, rfl⟩
  obtain ⟨r0, _, _, _, _, _, _, _, _⟩ := HB.out.rw.c
  go_wp2_with fail
  go_quiet (fail)
  go_wp2_with fail
  go_ret
  exact ⟨rfl, HB.out.drewN nq⟩
set_option maxHeartbeats 1000000 in
set_option maxRecDepth 100000 in
theorem do_high (w0 : World) (S G n R g cap : Nat) (s : SS) (w : World) (dd at_ nn tt : Int) (b : ByteArray) (whole : Bool) (h : Both w0 S G n R g cap s s w) (hd : (n : Int) ≤ at_) (h0 : (dd == 0) = false) (h1 : (dd == 1) = false) (h2 : (dd == 2) = false) :
    Calls Try.prog 16 #[.pointer (some ⟨S, 0, none⟩), .pointer (some ⟨R, 0, none⟩), .agg #[.int .i64 dd, .int .i64 at_, .int .i64 nn, .int .i64 tt, .string b, .bool whole]] w (DoRet w0 S G n R g cap s s) := by
  have HC := Lib.hid (show at_ < 0 ∨ (n : Int) ≤ at_ from .inr hd)
  have hd1 : decide (at_ < 0) = false := by simp; omega
  have hd2 : decide ((n : Int) ≤ at_) = true := by simpa using hd
  have HB0 := Lib.hid h
  have hn := h.st.hi
  clear h
  go_enter Try.func16, Try.ntmps16
  go_wp2_with fail
  have HB := Lib.hid (HB0.out.later (alloc1 w (.cells #[.int .i64 dd, .int .i64 at_, .int .i64 nn, .int .i64 tt, .string b, .bool whole] 32)))
  have HO := Lib.hid (BoxO.mk (Blk.new w 32 #[.int .i64 dd, .int .i64 at_, .int .i64 nn, .int .i64 tt, .string b, .bool whole]))
  generalize (w.alloc (.cells #[.int .i64 dd, .int .i64 at_, .int .i64 nn, .int .i64 tt, .string b, .bool whole] 32)) = W at HB HO ⊢
  obtain ⟨c0, c1, c2, c3, c4, c5⟩ := HO.out.c
  go_wp2_with fail
  refine (read_bad S G n at_ s _ HB.out.st HC.out).mono ?_
  rintro e w2 ⟨rfl, rfl⟩
  obtain ⟨r0, _, _, _, _, _, _, _, _⟩ := HB.out.rw.c
  go_wp2_with fail
  go_quiet (fail)
  go_wp2_with fail
  go_ret
  exact ⟨rfl, HB.out.drewN nq⟩
set_option maxHeartbeats 1000000 in
set_option maxRecDepth 100000 in
theorem do_in (w0 : World) (S G n R g cap : Nat) (s : SS) (w : World) (dd nn tt : Int) (b : ByteArray) (whole : Bool) (h : Both w0 S G n R g cap s s w) (j : Nat) (hd : j < n) (h0 : (dd == 0) = false) (h1 : (dd == 1) = false) (h2 : (dd == 2) = false) :
    Calls Try.prog 16 #[.pointer (some ⟨S, 0, none⟩), .pointer (some ⟨R, 0, none⟩), .agg #[.int .i64 dd, .int .i64 (j : Int), .int .i64 nn, .int .i64 tt, .string b, .bool whole]] w (DoRet w0 S G n R g cap s s) := by
  have hd1 : decide ((j : Int) < 0) = false := by simp
  have hd2 : decide (n ≤ j) = false := by simp; omega
  have g0 : (0 : Int) ≤ (j : Int) := Int.natCast_nonneg _
  have g1 : (j : Int) < (n : Int) := by omega
  have hjl : j < s.bl.length := by rw [h.st.len]; exact hd
  obtain ⟨bj, hbj⟩ : ∃ x, s.bl[j]? = some x := ⟨_, List.getElem?_eq_getElem hjl⟩
  have HJ := Lib.hid hbj
  have hbb : (bj.toList == bj.toList) = true := by simp
  clear hbj
  have HB0 := Lib.hid h
  have hn := h.st.hi
  clear h
  go_enter Try.func16, Try.ntmps16
  go_wp2_with fail
  have HB := Lib.hid (HB0.out.later (alloc1 w (.cells #[.int .i64 dd, .int .i64 (j : Int), .int .i64 nn, .int .i64 tt, .string b, .bool whole] 32)))
  have HO := Lib.hid (BoxO.mk (Blk.new w 32 #[.int .i64 dd, .int .i64 (j : Int), .int .i64 nn, .int .i64 tt, .string b, .bool whole]))
  generalize (w.alloc (.cells #[.int .i64 dd, .int .i64 (j : Int), .int .i64 nn, .int .i64 tt, .string b, .bool whole] 32)) = W at HB HO ⊢
  obtain ⟨c0, c1, c2, c3, c4, c5⟩ := HO.out.c
  go_wp2_with fail
  refine (read_ok S G n j s _ HB.out.st hd bj HJ.out).mono ?_
  rintro e w2 ⟨rfl, rfl⟩
  obtain ⟨r0, _, _, _, _, _, _, _, _⟩ := HB.out.rw.c
  have r1 := HB.out.rw.at_ hd HJ.out
  go_wp2_with fail
  go_quiet (fail)
  go_wp2_with fail
  go_quiet (fail)
  go_wp2_with fail
  go_ret
  exact ⟨rfl, (HB.out.drewN _).drewN _⟩
theorem do_any (w0 : World) (S G n R g cap : Nat) (s : SS) (w : World) (o : OpV) (h : Both w0 S G n R g cap s s w) (hok : s.Ok 1000) (hn : I64' o.nn) (ht : I64' o.tt) :
    Calls Try.prog 16 #[.pointer (some ⟨S, 0, none⟩), .pointer (some ⟨R, 0, none⟩), .agg #[.int .i64 o.dd, .int .i64 o.at_, .int .i64 o.nn, .int .i64 o.tt, .string o.b, .bool o.whole]] w (DoRet w0 S G n R g cap (s.op o) (s.op o)) := by
  obtain ⟨dd, at_, nn, tt, b, whole⟩ := o
  unfold SS.op
  dsimp only at *
  by_cases h0 : dd = 0
  · subst h0
    rw [if_pos rfl]
    exact do_write w0 S G n R g cap s w at_ nn tt b whole h hok _ rfl
  · rw [if_neg h0]
    by_cases h1 : dd = 1
    · subst h1
      rw [if_pos rfl]
      exact do_fuse w0 S G n R g cap s w at_ nn tt b whole h hn ht
    · rw [if_neg h1]
      by_cases h2 : dd = 2
      · subst h2
        rw [if_pos rfl]
        exact do_restart w0 S G n R g cap s w at_ nn tt b whole h
      · rw [if_neg h2]
        have b0 : (dd == 0) = false := by simpa using h0
        have b1 : (dd == 1) = false := by simpa using h1
        have b2 : (dd == 2) = false := by simpa using h2
        by_cases c : at_ < 0
        · exact do_low w0 S G n R g cap s w dd at_ nn tt b whole h c b0 b1 b2
        · by_cases d : (n : Int) ≤ at_
          · exact do_high w0 S G n R g cap s w dd at_ nn tt b whole h d b0 b1 b2
          · obtain ⟨j, rfl⟩ := Int.eq_ofNat_of_zero_le (show 0 ≤ at_ by omega)
            exact do_in w0 S G n R g cap s w dd nn tt b whole h j (by omega) b0 b1 b2
theorem blocks_any (S G n : Nat) (s : SS) (w : World) (h : StW S G n s w) : Calls Try.prog 45 #[.pointer (some ⟨S, 0, none⟩)] w fun e w' => e = .returned (.int .i64 (n : Int)) ∧ w = w' := by
  obtain ⟨c0, c1, c2, c3, c4, f1, f2, f3, f4⟩ := h.c
  clear h
  go_enter Try.func45, Try.ntmps45
  go_wp2_with fail
  go_ret
  exact ⟨rfl, rfl⟩
theorem quiet_blocks (S G n : Nat) (s : SS) (w : World) (q : Nat) (h : StW S G n s w) : Calls Try.prog 45 #[.pointer (some ⟨S, 0, none⟩)] (w.drewN q) fun e w' => e = .returned (.int .i64 (n : Int)) ∧ ∃ m, w' = w.drewN m :=
  (blocks_any S G n s _ (h.drewN q)).mono fun _ _ ⟨h, hw⟩ => ⟨h, q, hw.symm⟩
theorem quiet_writes (S G n : Nat) (s : SS) (w : World) (q : Nat) (h : StW S G n s w) : Calls Try.prog 23 #[.pointer (some ⟨S, 0, none⟩)] (w.drewN q) fun e w' => e = .returned (.int .i64 s.many) ∧ ∃ m, w' = w.drewN m :=
  (writes_any S G n s _ (h.drewN q)).mono fun _ _ ⟨h, hw⟩ => ⟨h, q, hw.symm⟩
set_option maxHeartbeats 1000000 in
set_option maxRecDepth 100000 in
theorem same_any (S G n R g cap : Nat) (s : SS) (w : World) (hs : StW S G n s w) (hr : RW R g cap n s w) :
    Calls Try.prog 17 #[.pointer (some ⟨S, 0, none⟩), .pointer (some ⟨R, 0, none⟩)] w fun e w' => e = .returned (.bool true) ∧ ∃ q, w' = w.drewN q := by
  have HS := Lib.hid hs
  have HR := Lib.hid hr
  have hn := hs.hi
  obtain ⟨r0, _, _, _, r4, _, _, _, _⟩ := hr.c
  have hl := hs.len
  have HL := Lib.hid hl
  clear hs hr hl
  go_enter Try.func17, Try.ntmps17
  go_wp2_with fail
  go_loop [13] (fun v => ∃ j : Nat, v = .int .i64 (j : Int) ∧ j ≤ n) (fun v => n - (intOf v).toNat)
  case atStart => exact ⟨0, rfl, by omega⟩
  case round =>
    obtain ⟨j, rfl, hj⟩ := hrel
    by_cases hlt : j < n
    · obtain ⟨bj, hbj⟩ : ∃ x, s.bl[j]? = some x := ⟨_, List.getElem?_eq_getElem (by rw [HL.out]; exact hlt)⟩
      have HJ := Lib.hid hbj
      have r1 := HR.out.at_ hlt hbj
      have g0 : (0 : Int) ≤ (j : Int) := Int.natCast_nonneg _
      have g1 : (j : Int) < (n : Int) := by omega
      clear hbj
      go_wp2_with fail
      refine (read_ok S G n j s _ HS.out hlt bj HJ.out).mono ?_
      rintro e w2 ⟨rfl, rfl⟩
      go_wp2_with fail
      go_round
      case rel => exact ⟨j + 1, by go_num, by omega⟩
      case measure => simp [intOf]; omega
    · obtain rfl : j = n := by omega
      go_wp2_with fail
      go_quiet ((first | (go_at_call 45; (with_reducible refine (quiet_blocks S G j s w _ HS.out).mono ?_); rintro e w' ⟨rfl, hq⟩; exact ⟨rfl, hq⟩) | (go_at_call 23; (with_reducible refine (quiet_writes S G j s w _ HS.out).mono ?_); rintro e w' ⟨rfl, hq⟩; exact ⟨rfl, hq⟩)))
      go_wp2_with fail
      go_ret
      exact ⟨rfl, _, rfl⟩
end Go.Proofs.Ytdapcahphaldjaa.Store
