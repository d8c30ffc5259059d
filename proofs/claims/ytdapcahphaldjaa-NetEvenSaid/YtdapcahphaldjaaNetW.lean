/- The walk of awake of the laws of net. -/
import Derived.Test.YtdapcahphaldjaaNetS
namespace Go.Proofs.Ytdapcahphaldjaa.Net
open Go.RowKit Go.Proofs.Ytdapcahphaldjaa.Cents
set_option linter.unusedVariables false
set_option linter.unusedSimpArgs false

theorem Quiet.below {w w' : World} (h : Quiet w w') : Below w.heap.size w w' := by
  obtain ⟨n, rfl⟩ := h
  exact ⟨rfl, rfl, rfl, Nat.le_refl _, fun _ _ => rfl⟩
theorem Row.alloc {w : World} {base : Nat} {A : Option Addr} {xs : List Value} (h : Row w base A xs) (o : Obj) : Row (w.alloc o) base A xs := h.below ((Below.refl _ _).alloc (Nat.le_refl _) _)
/-- Postings known by name, and how many. -/
def RetIs (w : World) (ps : List Post) (n : Nat) (err : Int) (e : Ending) (w' : World) : Prop :=
  ∃ A c, e = .returned (.tuple #[.slice A n c, .int .i64 err]) ∧ Row w' w.heap.size A (cells ps) ∧ Below w.heap.size w w'
theorem RetPs.is {w w' : World} {ps : List Post} {n : Nat} {err : Int} {e : Ending} (h : RetPs w ps err e w') (hn : ps.length = n) : RetIs w ps n err e w' := by
  obtain ⟨A, c, rfl, ho, hb⟩ := h
  exact ⟨A, c, by rw [hn], Row.of_own ho (by decide), hb⟩
theorem bill_is (ct b r m : Int) (w : World) (ps : List Post) (n : Nat) (er : Int) (i1 : I64 b) (i2 : I64 r) (i3 : I64 m) (hp : chgP ct b r m 0 = ps) (he : chgE ct b r m 0 = er) (hn : ps.length = n) :
    Calls Try.prog 27 #[.int .i64 ct, .int .i64 b, .int .i64 r, .int .i64 m] w (RetIs w ps n er) := by
  subst hp he
  exact (bill_any ct w b r m i1 i2 i3).mono fun _ _ h => h.is hn
theorem earn_is (ct b r m : Int) (w : World) (ps : List Post) (n : Nat) (er : Int) (i1 : I64 b) (i2 : I64 r) (i3 : I64 m) (hp : chgP ct b r 0 m = ps) (he : chgE ct b r 0 m = er) (hn : ps.length = n) :
    Calls Try.prog 29 #[.int .i64 ct, .int .i64 b, .int .i64 r, .int .i64 m] w (RetIs w ps n er) := by
  subst hp he
  exact (earn_any ct w b r m i1 i2 i3).mono fun _ _ h => h.is hn

set_option maxHeartbeats 2000000 in
set_option maxRecDepth 100000 in
theorem awake17 (w : World) : Calls Try.prog 24 #[] w fun e w' => e = .returned (.bool true) ∧ Below w.heap.size w w' := by
  go_enter Try.func24, Try.ntmps24
  go_wp2_with fail
  refine (sides_any _ _ _ (by decide) (by decide) (by decide) (by decide) 20 0 (by decide) (by decide)).mono ?_
  rintro e w1 ⟨rfl, rfl⟩
  go_wp2_with fail
  refine (sides_any _ _ _ (by decide) (by decide) (by decide) (by decide) 0 20 (by decide) (by decide)).mono ?_
  rintro e w1 ⟨rfl, rfl⟩
  go_wp2_with fail
  refine (sides_bad _ _ _ (by decide)).mono ?_
  rintro e w1 ⟨rfl, rfl⟩
  go_wp2_with fail
  refine (earn_is _ _ _ _ _ [⟨1, 7, 20⟩, ⟨2, 7, 30⟩, ⟨3, 7, -50⟩] 3 0 (by decide) (by decide) (by decide) (by decide) (by decide) rfl).mono ?_
  rintro e w1 ⟨A1, c1, rfl, hr1, hb1⟩
  have HR1 := Lib.hid hr1
  have HB1 := Lib.hid hb1
  clear hr1 hb1
  go_wp2_with fail
  refine (bill_is _ _ _ _ _ [⟨0, 7, 50⟩, ⟨1, 7, -20⟩, ⟨2, 7, -30⟩] 3 0 (by decide) (by decide) (by decide) (by decide) (by decide) rfl).mono ?_
  rintro e w2 ⟨A2, c2, rfl, hr2, hb2⟩
  have HR2 := Lib.hid hr2
  have HR12 := Lib.hid (HR1.out.below hb2)
  have HB2 := Lib.hid (HB1.out.trans (hb2.mono HB1.out.size))
  clear hr2 hb2 HR1 HB1
  go_wp2_with fail
  refine (bill_is _ _ _ _ _ [] 0 1 (by decide) (by decide) (by decide) (by decide) (by decide) rfl).mono ?_
  rintro e w3 ⟨A3, c3, rfl, hr3, hb3⟩
  have HR13 := Lib.hid (HR12.out.below hb3)
  have HR23 := Lib.hid (HR2.out.below hb3)
  have HB3 := Lib.hid (HB2.out.trans (hb3.mono HB2.out.size))
  clear hr3 hb3 HR12 HR2 HB2
  go_wp2_with fail
  refine (same_any _ _ _ _ [⟨1, 7, 20⟩, ⟨2, 7, 30⟩, ⟨3, 7, -50⟩] [⟨1, 7, 20⟩, ⟨2, 7, 30⟩, ⟨3, 7, -50⟩] _ (Row.alloc (HR13.out.weak (Nat.zero_le _)) _) (Row.of_blk (Blk.new _ _ _) (Nat.zero_le _) rfl) (by decide) (by decide) true (by decide)).mono ?_
  rintro e w4 ⟨rfl, hq4⟩
  have b3 := HB3.out.alloc HB3.out.size (.cells #[.int .i64 1, .int .i64 7, .int .i64 20, .int .i64 2, .int .i64 7, .int .i64 30, .int .i64 3, .int .i64 7, .int .i64 (-50)] 56)
  have HB4 := Lib.hid (b3.trans ((Quiet.below hq4).mono b3.size))
  have HR24 := Lib.hid ((Row.alloc HR23.out (.cells #[.int .i64 1, .int .i64 7, .int .i64 20, .int .i64 2, .int .i64 7, .int .i64 30, .int .i64 3, .int .i64 7, .int .i64 (-50)] 56)).below (Quiet.below hq4))
  clear hq4 b3
  go_wp2_with fail
  refine (same_any _ _ _ _ [⟨0, 7, 50⟩, ⟨1, 7, -20⟩, ⟨2, 7, -30⟩] [⟨0, 7, 50⟩, ⟨1, 7, -20⟩, ⟨2, 7, -30⟩] _ (Row.alloc (HR24.out.weak (Nat.zero_le _)) _) (Row.of_blk (Blk.new _ _ _) (Nat.zero_le _) rfl) (by decide) (by decide) true (by decide)).mono ?_
  rintro e w5 ⟨rfl, hq5⟩
  have b4 := HB4.out.alloc HB4.out.size (.cells #[.int .i64 0, .int .i64 7, .int .i64 50, .int .i64 1, .int .i64 7, .int .i64 (-20), .int .i64 2, .int .i64 7, .int .i64 (-30)] 56)
  have HB5 := Lib.hid (b4.trans ((Quiet.below hq5).mono b4.size))
  clear hq5 b4
  go_wp2_with fail
  go_ret
  exact ⟨rfl, HB5.out⟩
end Go.Proofs.Ytdapcahphaldjaa.Net
