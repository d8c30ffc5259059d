/- The store's statements: operations, one of both stores, the comparison of all blocks. -/
import Derived.Test.YtdapcahphaldjaaStoreRW
import Derived.Deep.RegionHeld3
namespace Go.Proofs.Ytdapcahphaldjaa.Store
open Go.RowKit
set_option linter.unusedVariables false
set_option linter.unusedSimpArgs false

structure SS.Ok (s : SS) (m : Int) : Prop where
  left : I64' s.left
  torn : I64' s.torn
  many0 : 0 ≤ s.many
  many : s.many ≤ m
theorem SS.Ok.new (n : Nat) : (SS.new n).Ok 0 := ⟨by unfold SS.new I64'; simp, by unfold SS.new I64'; simp, by simp [SS.new], by simp [SS.new]⟩
theorem SS.Ok.more {s : SS} {m k : Int} (h : s.Ok m) (hk : m ≤ k) : s.Ok k := ⟨h.left, h.torn, h.many0, by have := h.many; omega⟩
theorem SS.Ok.write {s : SS} {m : Int} (h : s.Ok m) (i : Int) (b : ByteArray) : (s.write i b).1.Ok (m + 1) := by
  obtain ⟨h1, h2, h3, h4⟩ := h
  unfold I64' at h1
  unfold SS.write
  split
  · exact ⟨h1, h2, h3, by show s.many ≤ m + 1; omega⟩
  · split
    · exact ⟨h1, h2, h3, by show s.many ≤ m + 1; omega⟩
    · split
      · exact ⟨h1, h2, h3, by show s.many ≤ m + 1; omega⟩
      · refine ⟨?_, h2, by show 0 ≤ s.many + 1; omega, by show s.many + 1 ≤ m + 1; omega⟩
        show I64' (if 0 < s.left then s.left - 1 else s.left)
        unfold I64'
        split <;> omega
theorem SS.Ok.fuse {s : SS} {m : Int} (h : s.Ok m) {x t : Int} (hx : I64' x) (ht : I64' t) : (s.fuse x t).Ok m := ⟨by show I64' (max x (-1)); unfold I64' at *; omega, ht, h.many0, h.many⟩
theorem SS.Ok.restart {s : SS} {m : Int} (h : s.Ok m) : s.restart.Ok m := ⟨by show I64' (-1); unfold I64'; omega, h.torn, h.many0, h.many⟩

theorem write_any (S G n : Nat) (i : Int) (b : ByteArray) (s : SS) (w : World) (h : StW S G n s w) (hok : s.Ok 1000) :
    Calls Try.prog 18 #[.pointer (some ⟨S, 0, none⟩), .int .i64 i, .string b] w (RetS S G n (s.write i b).1 w (s.write i b).2) := by
  have hlen := h.len
  unfold SS.write
  by_cases c : i < 0 ∨ (s.bl.length : Int) ≤ i ∨ b.size ≠ 64
  · rw [if_pos c]; exact write_arg S G n i b s w h (by omega)
  · rw [if_neg c]
    obtain ⟨j, rfl⟩ := Int.eq_ofNat_of_zero_le (show 0 ≤ i by omega)
    have hj : j < n := by omega
    by_cases d : s.down = true
    · rw [if_pos d]; exact write_down S G n j b s w h hj (by omega) d
    · rw [if_neg d]
      have d' : s.down = false := by simpa using d
      have hg : s.bl[j]? = some (s.bl[j]'(by omega)) := List.getElem?_eq_getElem (by omega)
      by_cases e : s.left = 0
      · rw [if_pos e, Int.toNat_natCast, List.getD_eq_getElem?_getD, hg]
        exact write_torn S G n j b s w h hj (by omega) d' e hok.torn _ hg
      · rw [if_neg e, Int.toNat_natCast]
        exact write_ok S G n j b s w h hj (by omega) d' e hok.left (by have := hok.many; have := hok.many0; unfold I64'; omega) hok.many0
theorem rwrite_any (R g cap n : Nat) (i : Int) (b : ByteArray) (s : SS) (w : World) (h : RW R g cap n s w) (hok : s.Ok 1000) :
    Calls Try.prog 47 #[.pointer (some ⟨R, 0, none⟩), .int .i64 i, .string b] w (RetR R g cap n (s.write i b).1 w (s.write i b).2) := by
  have hlen := h.len
  unfold SS.write
  by_cases c : i < 0 ∨ (s.bl.length : Int) ≤ i ∨ b.size ≠ 64
  · rw [if_pos c]; exact rwrite_arg R g cap n i b s w h (by omega)
  · rw [if_neg c]
    obtain ⟨j, rfl⟩ := Int.eq_ofNat_of_zero_le (show 0 ≤ i by omega)
    have hj : j < n := by omega
    by_cases d : s.down = true
    · rw [if_pos d]; exact rwrite_down R g cap n j b s w h hj (by omega) d
    · rw [if_neg d]
      have d' : s.down = false := by simpa using d
      have hg : s.bl[j]? = some (s.bl[j]'(by omega)) := List.getElem?_eq_getElem (by omega)
      by_cases e : s.left = 0
      · rw [if_pos e, Int.toNat_natCast, List.getD_eq_getElem?_getD, hg]
        exact rwrite_torn R g cap n j _ b s w h hj (by omega) d' e hok.torn _ hg rfl
      · rw [if_neg e, Int.toNat_natCast]
        exact rwrite_ok R g cap n j b s w h hj (by omega) d' e hok.left (by have := hok.many; have := hok.many0; unfold I64'; omega) hok.many0 _ hg
/-- An operation. -/
structure OpV where
  dd : Int
  at_ : Int
  nn : Int
  tt : Int
  b : ByteArray
  whole : Bool
def OpV.cells (o : OpV) : List Value := [.int .i64 o.dd, .int .i64 o.at_, .int .i64 o.nn, .int .i64 o.tt, .string o.b, .bool o.whole]
def OpV.val (o : OpV) : Value := .agg #[.int .i64 o.dd, .int .i64 o.at_, .int .i64 o.nn, .int .i64 o.tt, .string o.b, .bool o.whole]
def OpV.block (o : OpV) : ByteArray := if o.whole = false ∨ 64 < o.b.size then o.b else o.b ++ pad (64 - o.b.size)
def BlockIs (w : World) (b : ByteArray) (e : Ending) (w' : World) : Prop := e = .returned (.string b) ∧ Below w.heap.size w w'
set_option maxHeartbeats 1000000 in
set_option maxRecDepth 100000 in
theorem block_any (dd at_ nn tt : Int) (b : ByteArray) (whole : Bool) (w : World) (x : ByteArray) (hx : (OpV.mk dd at_ nn tt b whole).block = x) : Calls Try.prog 19 #[.agg #[.int .i64 dd, .int .i64 at_, .int .i64 nn, .int .i64 tt, .string b, .bool whole]] w (BlockIs w x) := by
  have HX := Lib.hid hx
  clear hx
  cases whole with
  | false =>
    have HE := Lib.hid (show b = x by rw [← HX.out]; simp [OpV.block])
    go_enter Try.func19, Try.ntmps19
    go_wp2_with fail
    go_ret
    exact ⟨by rw [← HE.out]; rfl, alloc1 _ _⟩
  | true =>
    by_cases c : 64 < b.size
    · have HE := Lib.hid (show b = x by rw [← HX.out]; simp [OpV.block, c])
      have c1 : decide ((64 : Int) < (b.size : Int)) = true := by simp; omega
      clear c
      go_enter Try.func19, Try.ntmps19
      go_wp2_with fail
      go_ret
      exact ⟨by rw [← HE.out]; rfl, alloc1 _ _⟩
    · have HE := Lib.hid (show b ++ pad (64 - b.size) = x by rw [← HX.out]; simp [OpV.block, c])
      have c1 : decide ((64 : Int) < (b.size : Int)) = false := by simp; omega
      have hb : b.size ≤ 64 := by omega
      obtain ⟨m, hm⟩ : ∃ m, 64 - b.size = m := ⟨_, rfl⟩
      have hmi : (64 : Int) - (b.size : Int) = (m : Int) := by omega
      have hm64 : m ≤ 64 := by omega
      rw [hm] at HE
      have hps := pad_size m
      have hadd : ¬ (9223372036854775807 < b.size + (pad m).size) := by rw [hps]; omega
      have hw : IntKind.i64.wrap (64 - (b.size : Int)) = (m : Int) := by rw [hmi]; exact IntWalk.i64_in _ (by omega)
      have hmk := fun W : World => made_bytes W m (by omega)
      have HCV := Lib.hid (fun W : World => pad_read (Blk.drew (Blk.new W 5 (padCells m))))
      generalize padCells m = pc at *
      generalize pad m = pm at *
      clear c hm hps hmi
      go_enter Try.func19, Try.ntmps19
      go_wp2_with fail
      have hbx := Blk.new w 32 #[.int .i64 dd, .int .i64 at_, .int .i64 nn, .int .i64 tt, .string b, .bool true]
      have hbe := alloc1 w (.cells #[.int .i64 dd, .int .i64 at_, .int .i64 nn, .int .i64 tt, .string b, .bool true] 32)
      generalize (w.alloc (.cells #[.int .i64 dd, .int .i64 at_, .int .i64 nn, .int .i64 tt, .string b, .bool true] 32)) = W at hbx hbe ⊢
      have c4 : W.cell? ⟨w.heap.size, 4, none⟩ = some (.string b) := hbx.cell 4
      have hlt := hbx.lt
      have HBE := Lib.hid hbe
      have c5 := Lib.hid (fun (W2 : World) (o : Obj) (h : W2.cell? ⟨w.heap.size, 4, none⟩ = some (.string b)) => show (W2.alloc o).cell? ⟨w.heap.size, 4, none⟩ = some (.string b) from cell_below' (alloc1 W2 o) h)
      have hcv := HCV.out W
      clear hbx hbe
      go_region_law (fail)
      all_goals
        go_wp2_with fail
        go_ret
        exact ⟨by rw [← HE.out]; rfl, HBE.out.trans ((alloc1 W _).drew.mono HBE.out.size)⟩

/-- Both stores: the program's in S, G; the reference's in R, g. -/
structure Both (w0 : World) (S G n R g cap : Nat) (s r : SS) (w : World) : Prop where
  st : StW S G n s w
  rw : RW R g cap n r w
  be : Below w0.heap.size w0 w
  hS : w0.heap.size ≤ S
  hG : w0.heap.size ≤ G
  hR : w0.heap.size ≤ R
  hg : w0.heap.size ≤ g
  n1 : R ≠ S
  n2 : R ≠ G
  n3 : g ≠ S
  n4 : g ≠ G
section
variable {w0 w w' : World} {S G n R g cap : Nat} {s r s' r' : SS}
theorem StW.lt1 (h : StW S G n s w) : S < w.heap.size := h.bs.lt
theorem StW.lt2 (h : StW S G n s w) : G < w.heap.size := h.bg.lt
theorem RW.lt1 (h : RW R g cap n r w) : R < w.heap.size := h.bs.lt
theorem RW.lt2 (h : RW R g cap n r w) : g < w.heap.size := (h.own.lt g rfl).2
theorem StW.later (h : StW S G n s w) (hb : Below w.heap.size w w') : StW S G n s w' := h.below hb h.lt1 h.lt2
theorem RW.later (h : RW R g cap n r w) (hb : Below w.heap.size w w') : RW R g cap n r w' :=
  h.fr (Fr.later (S := fun _ => False) hb) (fun h => h) (fun h => h)
theorem Both.later (h : Both w0 S G n R g cap s r w) (hb : Below w.heap.size w w') : Both w0 S G n R g cap s r w' :=
  ⟨h.st.later hb, h.rw.later hb, h.be.trans (hb.mono h.be.size), h.hS, h.hG, h.hR, h.hg, h.n1, h.n2, h.n3, h.n4⟩
theorem Both.drew (h : Both w0 S G n R g cap s r w) : Both w0 S G n R g cap s r w.drew :=
  ⟨h.st.drew, h.rw.drew, h.be.drew, h.hS, h.hG, h.hR, h.hg, h.n1, h.n2, h.n3, h.n4⟩
theorem two_above {a S G : Nat} (hS : a ≤ S) (hG : a ≤ G) : ∀ k, k < a → ¬ Two S G k := fun k hk e => by
  rcases e with e | e <;> omega
theorem Fr.then_below {F : Nat → Prop} (h : Below w0.heap.size w0 w) (hf : Fr F w w') (hF : ∀ k, k < w0.heap.size → ¬ F k) : Below w0.heap.size w0 w' :=
  ⟨hf.os.trans h.os, hf.tape.trans h.tape, hf.output.trans h.output, Nat.le_trans h.size hf.size, fun k hk => (hf.block k (Nat.lt_of_lt_of_le hk h.size) (hF k hk)).trans (h.block k hk)⟩
theorem Both.setS (h : Both w0 S G n R g cap s r w) (hst : StW S G n s' w') (hf : Fr (Two S G) w w') : Both w0 S G n R g cap s' r w' :=
  ⟨hst, h.rw.fr hf (fun e => e.elim h.n1 h.n2) (fun e => e.elim h.n3 h.n4), Fr.then_below h.be hf (two_above h.hS h.hG), h.hS, h.hG, h.hR, h.hg, h.n1, h.n2, h.n3, h.n4⟩
theorem Both.setR (h : Both w0 S G n R g cap s r w) (hst : RW R g cap n r' w') (hf : Fr (Two R g) w w') : Both w0 S G n R g cap s r' w' :=
  ⟨h.st.fr hf (fun e => e.elim (fun e => h.n1 e.symm) (fun e => h.n3 e.symm)) (fun e => e.elim (fun e => h.n2 e.symm) (fun e => h.n4 e.symm)), hst, Fr.then_below h.be hf (two_above h.hR h.hg), h.hS, h.hG, h.hR, h.hg, h.n1, h.n2, h.n3, h.n4⟩
end

/-- What an operation does. -/
def SS.op (s : SS) (o : OpV) : SS := if o.dd = 0 then (s.write o.at_ o.block).1 else if o.dd = 1 then s.fuse o.nn o.tt else if o.dd = 2 then s.restart else s

/-- The box of an operation. -/
structure BoxO (X : Nat) (dd at_ nn tt : Int) (b : ByteArray) (whole : Bool) (w : World) : Prop where
  bx : Blk w X 32 #[.int .i64 dd, .int .i64 at_, .int .i64 nn, .int .i64 tt, .string b, .bool whole]
structure OpC (X : Nat) (dd at_ nn tt : Int) (b : ByteArray) (whole : Bool) (w : World) : Prop where
  c0 : w.cell? ⟨X, 0, none⟩ = some (.int .i64 dd)
  c1 : w.cell? ⟨X, 1, none⟩ = some (.int .i64 at_)
  c2 : w.cell? ⟨X, 2, none⟩ = some (.int .i64 nn)
  c3 : w.cell? ⟨X, 3, none⟩ = some (.int .i64 tt)
  c4 : w.cell? ⟨X, 4, none⟩ = some (.string b)
  c5 : w.cell? ⟨X, 5, none⟩ = some (.bool whole)
theorem BoxO.c {X : Nat} {dd at_ nn tt : Int} {b : ByteArray} {whole : Bool} {w : World} (h : BoxO X dd at_ nn tt b whole w) : OpC X dd at_ nn tt b whole w := ⟨h.bx.cell 0, h.bx.cell 1, h.bx.cell 2, h.bx.cell 3, h.bx.cell 4, h.bx.cell 5⟩
theorem BoxO.fr {X : Nat} {dd at_ nn tt : Int} {b : ByteArray} {whole : Bool} {w w' : World} (h : BoxO X dd at_ nn tt b whole w) {F : Nat → Prop} (hf : Fr F w w') (hX : ¬ F X) : BoxO X dd at_ nn tt b whole w' := ⟨h.bx.fr hf hX⟩
theorem BoxO.later {X : Nat} {dd at_ nn tt : Int} {b : ByteArray} {whole : Bool} {w w' : World} (h : BoxO X dd at_ nn tt b whole w) (hb : Below w.heap.size w w') : BoxO X dd at_ nn tt b whole w' := ⟨h.bx.below hb h.bx.lt⟩
theorem BoxO.drew {X : Nat} {dd at_ nn tt : Int} {b : ByteArray} {whole : Bool} {w : World} (h : BoxO X dd at_ nn tt b whole w) : BoxO X dd at_ nn tt b whole w.drew := ⟨h.bx⟩

def DoRet (w0 : World) (S G n R g cap : Nat) (s r : SS) (e : Ending) (w' : World) : Prop := e = .returned (.bool true) ∧ Both w0 S G n R g cap s r w'
set_option maxHeartbeats 1000000 in
set_option maxRecDepth 100000 in
theorem do_write (w0 : World) (S G n R g cap : Nat) (s : SS) (w : World) (at_ nn tt : Int) (b : ByteArray) (whole : Bool) (h : Both w0 S G n R g cap s s w) (hok : s.Ok 1000) (x : ByteArray) (hx : (OpV.mk 0 at_ nn tt b whole).block = x) :
    Calls Try.prog 16 #[.pointer (some ⟨S, 0, none⟩), .pointer (some ⟨R, 0, none⟩), .agg #[.int .i64 0, .int .i64 at_, .int .i64 nn, .int .i64 tt, .string b, .bool whole]] w (DoRet w0 S G n R g cap (s.write at_ x).1 (s.write at_ x).1) := by
  have HX := Lib.hid hx
  have OK := Lib.hid hok
  have HB0 := Lib.hid h
  have hlt := And.intro (And.intro h.st.lt1 h.st.lt2) (And.intro h.rw.lt1 h.rw.lt2)
  clear hx hok h
  go_enter Try.func16, Try.ntmps16
  go_wp2_with fail
  have HB := Lib.hid (HB0.out.later (alloc1 w (.cells #[.int .i64 0, .int .i64 at_, .int .i64 nn, .int .i64 tt, .string b, .bool whole] 32)))
  have HO := Lib.hid (BoxO.mk (Blk.new w 32 #[.int .i64 0, .int .i64 at_, .int .i64 nn, .int .i64 tt, .string b, .bool whole]))
  generalize (w.alloc (.cells #[.int .i64 0, .int .i64 at_, .int .i64 nn, .int .i64 tt, .string b, .bool whole] 32)) = W at HB HO ⊢
  obtain ⟨c0, c1, c2, c3, c4, c5⟩ := HO.out.c
  have HB := Lib.hid HB.out.drew
  have HO := Lib.hid HO.out.drew
  have nX : ∀ A B, A < w.heap.size ∧ B < w.heap.size → ¬ Two A B w.heap.size := fun A B h e => by rcases e with e | e <;> omega
  go_region_held3 (fun w' => w'.cell? ⟨w.heap.size, 0, none⟩ = some (.int .i64 0) ∧ w'.cell? ⟨w.heap.size, 1, none⟩ = some (.int .i64 at_) ∧ w'.cell? ⟨w.heap.size, 2, none⟩ = some (.int .i64 nn) ∧ w'.cell? ⟨w.heap.size, 3, none⟩ = some (.int .i64 tt) ∧ w'.cell? ⟨w.heap.size, 4, none⟩ = some (.string b) ∧ w'.cell? ⟨w.heap.size, 5, none⟩ = some (.bool whole))
    (first | (go_split_ands; exact ⟨c0, c1, c2, c3, c4, c5⟩) | (go_keep; done))
    (first
      | (go_at_call 19; refine (block_any _ _ _ _ _ _ _ x HX.out).mono ?_; rintro e w1 ⟨rfl, hb⟩; have HB := Lib.hid (HB.out.later hb); have HO := Lib.hid (HO.out.later hb); clear hb; obtain ⟨c0, c1, c2, c3, c4, c5⟩ := HO.out.c)
      | (go_at_call 18; refine (write_any S G n at_ x s _ HB.out.st OK.out).mono ?_; rintro e w2 ⟨rfl, hst, hfr⟩; have HB := Lib.hid (HB.out.setS hst hfr); have HO := Lib.hid (HO.out.fr hfr (nX _ _ hlt.1)); clear hst hfr; obtain ⟨c0, c1, c2, c3, c4, c5⟩ := HO.out.c)
      | (go_at_call 47; refine (rwrite_any R g cap n at_ x s _ HB.out.rw OK.out).mono ?_; rintro e w2 ⟨rfl, hst, hfr⟩; have HB := Lib.hid (HB.out.setR hst hfr); have HO := Lib.hid (HO.out.fr hfr (nX _ _ hlt.2)); clear hst hfr; obtain ⟨c0, c1, c2, c3, c4, c5⟩ := HO.out.c))
  all_goals
    go_wp2_with fail
    go_ret
    exact ⟨rfl, HB.out⟩
end Go.Proofs.Ytdapcahphaldjaa.Store
