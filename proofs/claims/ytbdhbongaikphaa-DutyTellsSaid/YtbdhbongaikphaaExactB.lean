/- The walks of the reference's Less, Cmp, Fit, Total. -/
import Derived.Test.YtbdhbongaikphaaPlus
import Derived.Deep.RegionHeld3
namespace Go.Proofs.Ytbdhbongaikphaa.Exact
open Go.RowKit Go.Proofs.Ytbdhbongaikphaa.Cents
set_option linter.unusedVariables false
set_option linter.unusedSimpArgs false

/-- Later than w: what was there is as it was. -/
def Later (w w' : World) : Prop := Below w.heap.size w w'
theorem Later.refl (w : World) : Later w w := Below.refl _ _
theorem Later.trans {a b c : World} (h : Later a b) (k : Below b.heap.size b c) : Later a c := Below.trans h (k.mono h.size)
theorem Later.drew {a b : World} (h : Later a b) : Later a b.drew := Below.drew h
theorem Later.drewN {a b : World} (h : Later a b) (n : Nat) : Later a (b.drewN n) := ⟨h.os, h.tape, h.output, h.size, h.block⟩
theorem Later.cell {w w' : World} (h : Later w w') {p : Addr} {u : Value} (hc : w.cell? p = some u) : w'.cell? p = some u := cell_below' h hc
theorem Later.frozen {w w' : World} (h : Later w w') {p : Addr} {u : Value} (hc : w.cell? p = some u) (hf : w.frozen? p = false) : w'.frozen? p = false := (Below.frozen h (cell_lt hc)).trans hf
theorem Ex.later {w w' : World} {F : Nat → Prop} {v : Value} {n : Int} {k : Nat} (h : Ex w F v n k) (hb : Later w w') : Ex w' F v n k := h.below hb

theorem set2_other {w : World} {X i j g o : Nat} {u v : Value} (h : g ≠ X) : ((w.setCell ⟨X, i, none⟩ u).setCell ⟨X, j, none⟩ v).cell? ⟨g, o, none⟩ = w.cell? ⟨g, o, none⟩ := by
  rw [World.cell?_setCell_other _ _ _ _ (by simp [h]), World.cell?_setCell_other _ _ _ _ (by simp [h])]
/-- F, but not block X. -/
def But (F : Nat → Prop) (X : Nat) (q : Nat) : Prop := F q ∧ q ≠ X
theorem Ex.but {w : World} {F : Nat → Prop} {v : Value} {n : Int} {k X : Nat} (h : Ex w F v n k) (hX : w.heap.size ≤ X) : Ex w (But F X) v n k := h.weak fun q hq hl => ⟨hq, by omega⟩
theorem New.but {w w' : World} {F : Nat → Prop} {X : Nat} (h : New w F) (hs : w.heap.size ≤ w'.heap.size) (hX : X < w'.heap.size) : New w' (But F X) := fun q hq => ⟨h q (by omega), by omega⟩

/-- The world behind the boxes of two numbers and the block of the answer. -/
structure Box2 (w0 : World) (sa sb : Int) (A B : Option Addr) (na nb ca cb : Nat) (wr : World) : Prop where
  xa : Blk wr w0.heap.size 64 #[.int .i64 sa, .slice A na ca]
  xb : Blk wr (w0.heap.size + 1) 64 #[.int .i64 sb, .slice B nb cb]
  res : Blk wr (w0.heap.size + 2) 64 #[.int .i64 0, .slice none 0 0]
  be : Below w0.heap.size w0 wr
theorem Box2.start (w : World) (sa sb : Int) (A B : Option Addr) (na nb ca cb : Nat) :
    Box2 w sa sb A B na nb ca cb (((w.alloc (.cells #[.int .i64 sa, .slice A na ca] 64)).alloc (.cells #[.int .i64 sb, .slice B nb cb] 64)).alloc (.cells #[.int .i64 0, .slice none 0 0] 64)) where
  xa := ((Blk.new w _ _).alloc _).alloc _
  xb := by have := Blk.new (w.alloc (.cells #[.int .i64 sa, .slice A na ca] 64)) 64 #[.int .i64 sb, .slice B nb cb]; exact (by simpa using this : Blk _ (w.heap.size + 1) _ _).alloc _
  res := by have := Blk.new ((w.alloc (.cells #[.int .i64 sa, .slice A na ca] 64)).alloc (.cells #[.int .i64 sb, .slice B nb cb] 64)) 64 #[.int .i64 0, .slice none 0 0]; simpa using this
  be := (((Below.refl _ _).alloc (Nat.le_refl _) _).alloc (by simp) _).alloc (by simp; omega) _
theorem Box2.later {w0 wr w' : World} {sa sb : Int} {A B : Option Addr} {na nb ca cb : Nat} (h : Box2 w0 sa sb A B na nb ca cb wr) (hl : Later wr w') : Box2 w0 sa sb A B na nb ca cb w' :=
  ⟨h.xa.below hl h.xa.lt, h.xb.below hl h.xb.lt, h.res.below hl h.res.lt, h.be.trans (hl.mono h.be.size)⟩
/-- The cells of Box2, as the walk wants them. -/
def Cells2 (w0 : World) (sa sb : Int) (A B : Option Addr) (na nb ca cb : Nat) (wr : World) : Prop :=
  wr.cell? ⟨w0.heap.size, 0, none⟩ = some (.int .i64 sa) ∧ wr.cell? ⟨w0.heap.size, 1, none⟩ = some (.slice A na ca) ∧
  wr.cell? ⟨w0.heap.size + 1, 0, none⟩ = some (.int .i64 sb) ∧ wr.cell? ⟨w0.heap.size + 1, 1, none⟩ = some (.slice B nb cb) ∧
  wr.cell? ⟨w0.heap.size + 2, 0, none⟩ = some (.int .i64 0) ∧ wr.cell? ⟨w0.heap.size + 2, 1, none⟩ = some (.slice none 0 0) ∧ wr.frozen? ⟨w0.heap.size + 2, 0, none⟩ = false ∧ wr.frozen? ⟨w0.heap.size + 2, 1, none⟩ = false
theorem Box2.cells {w0 wr : World} {sa sb : Int} {A B : Option Addr} {na nb ca cb : Nat} (h : Box2 w0 sa sb A B na nb ca cb wr) : Cells2 w0 sa sb A B na nb ca cb wr :=
  ⟨h.xa.cell 0, h.xa.cell 1, h.xb.cell 0, h.xb.cell 1, h.res.cell 0, h.res.cell 1, h.res.frozen 0, h.res.frozen 1⟩

set_option maxHeartbeats 1000000 in
set_option maxRecDepth 100000 in
theorem less_any (F : Nat → Prop) (va vb : Value) (m n : Int) (k : Nat) (w : World) (hF : New w F) (ha : Ex w F va m k) (hb : Ex w F vb n k) (hk : k ≤ 100000) :
    Calls Try.prog 46 #[va, vb] w (RetEx w F (m - n) (k + 1)) := by
  have HA := Lib.hid (ha.but (X := w.heap.size + 2) (by omega))
  have HB := Lib.hid (hb.but (X := w.heap.size + 2) (by omega))
  have HF := Lib.hid hF
  rw [Int.sub_eq_add_neg]
  obtain ⟨a, A, ca, rfl, _⟩ := ha
  obtain ⟨b, B, cb, rfl, _⟩ := hb
  clear hF
  generalize a.length = na at *
  generalize b.length = nb at *
  generalize EM.sgn m = sm at *
  generalize EM.sgn n = sn at *
  go_enter Try.func46, Try.ntmps46
  go_wp2_with fail
  have hbx := Box2.start w sm sn A B na nb ca cb
  revert hbx
  generalize (((w.alloc (.cells #[.int .i64 sm, .slice A na ca] 64)).alloc (.cells #[.int .i64 sn, .slice B nb cb] 64)).alloc (.cells #[.int .i64 0, .slice none 0 0] 64)) = W
  intro hbx
  have HX := Lib.hid hbx
  obtain ⟨e1, e2, e3, e4, e5, e6, f5, f6⟩ := hbx.cells
  clear hbx
  go_region_held3 (fun w' => w'.cell? ⟨w.heap.size, 0, none⟩ = some (.int .i64 sm) ∧ w'.cell? ⟨w.heap.size, 1, none⟩ = some (.slice A na ca) ∧ w'.cell? ⟨w.heap.size + 1, 0, none⟩ = some (.int .i64 sn) ∧ w'.cell? ⟨w.heap.size + 1, 1, none⟩ = some (.slice B nb cb))
    (first | (go_keep; done) | ((try dsimp only); (repeat' apply And.intro); all_goals (rw [set2_other (by omega)]; assumption)) | (go_split_ands; exact ⟨c1, c2, c3, c4⟩) | (go_split_ands; exact ⟨d1, d2, d3, d4⟩))
    (first
      | (go_at_call 50; refine (neg_any (But F (w.heap.size + 2)) _ n k _ ?_).mono ?_; exact (HB.out.below (HX.out.later (Later.refl _).drew).be); rintro e w1 ⟨vn, rfl, hxn, hb1⟩; have HX1 := Lib.hid (HX.out.later ((Later.refl _).drew.trans hb1)); have HN := Lib.hid hxn; clear hxn hb1; obtain ⟨c1, c2, c3, c4, c5, c6, c7, c8⟩ := HX1.out.cells)
      | (go_at_call 20; refine (plus_any (But F (w.heap.size + 2)) _ _ m (-n) k _ ?_ ?_ ?_ hk).mono ?_; exact HF.out.but HX1.out.be.size HX1.out.res.lt; exact HA.out.below HX1.out.be; exact HN.out; rintro e w2 ⟨_, rfl, ⟨es, E, ce, rfl, h2', h3', h4', h5'⟩, hb2⟩; have HX2 := Lib.hid (HX1.out.later hb2); have H4 := Lib.hid h4'; have H5 := Lib.hid h5'; clear h4' h5' hb2; obtain ⟨d1, d2, d3, d4, d5, d6, d7, d8⟩ := HX2.out.cells))
  go_wp2_with fail
  refine bodyPost_end (v := .agg #[.int .i64 (EM.sgn (m + -n)), .slice E es.length ce]) (by simp [results, Try.results46, go_sem, d5, d6]) rfl ⟨_, rfl, ?_, ?_⟩
  · refine ⟨es, E, ce, rfl, h2', h3', ?_, H5.out⟩
    exact RowF.weak ((H4.out.setCell (fun h => h.2 rfl) _).setCell (fun h => h.2 rfl) _) (fun q hq _ => hq.1)
  · exact (HX2.out.be.setCell (by simp; omega) _).setCell (by simp; omega) _

theorem field0 (s : Int) (E : Option Addr) (n c : Nat) (w : World) : (Instr.field 64 (.agg #[.int .i64 s, .slice E n c]) 0).run Try.prog w = .ok (.int .i64 s) w := by kernel_rfl
set_option maxHeartbeats 1000000 in
set_option maxRecDepth 100000 in
theorem cmp_any (va vb : Value) (m n : Int) (k : Nat) (w : World) (ha : Ex w (fun _ => True) va m k) (hb : Ex w (fun _ => True) vb n k) (hk : k ≤ 100000) (x : Int) (hx : EM.sgn (m - n) = x) :
    Calls Try.prog 38 #[va, vb] w fun e w' => e = .returned (.int .i64 x) ∧ Below w.heap.size w w' := by
  have HA := Lib.hid ha
  have HB := Lib.hid hb
  have HX := Lib.hid hx
  obtain ⟨a, A, ca, rfl, _⟩ := ha
  obtain ⟨b, B, cb, rfl, _⟩ := hb
  clear hx
  generalize a.length = na at *
  generalize b.length = nb at *
  generalize EM.sgn m = sm at *
  generalize EM.sgn n = sn at *
  go_enter Try.func38, Try.ntmps38
  go_wp2_with fail
  have b2 : Below w.heap.size w ((w.alloc (.cells #[.int .i64 sm, .slice A na ca] 64)).alloc (.cells #[.int .i64 sn, .slice B nb cb] 64)) := ((Below.refl _ _).alloc (Nat.le_refl _) _).alloc (by simp) _
  refine (less_any (fun _ => True) _ _ m n k _ (fun _ _ => trivial) (HA.out.below b2) (HB.out.below b2) hk).mono ?_
  rintro e w2 ⟨_, rfl, ⟨es, E, ce, rfl, h2', h3', h4', h5'⟩, hb2⟩
  have HB2 := Lib.hid (Below.trans b2 (hb2.mono b2.size))
  clear h4' h5' hb2 b2
  have hfl := field0 (EM.sgn (m - n)) E es.length ce w2
  go_wp2_with fail
  go_ret
  exact ⟨by rw [← HX.out]; rfl, HB2.out⟩

/-- What Fit tells. -/
def fitN (n : Int) : Int := if I64 n then n else 0
def fitE (n : Int) : Int := if I64 n then 0 else 3
def fitT (n : Int) : Value := .tuple #[.int .i64 (fitN n), .int .i64 (fitE n)]

/-- The box of one number. -/
theorem Below.alloc1 (w : World) (o : Obj) : Below w.heap.size w (w.alloc o) := (Below.refl _ _).alloc (Nat.le_refl _) _

set_option maxHeartbeats 2000000 in
set_option maxRecDepth 100000 in
theorem fit_over (v : Value) (n : Int) (k : Nat) (w : World) (h : Ex w (fun _ => True) v n k) (hk : k ≤ 90000) (hk7 : 7 ≤ k) (hn : 9223372036854775807 < n) :
    Calls Try.prog 22 #[v] w fun e w' => e = .returned (.tuple #[.int .i64 0, .int .i64 3]) ∧ Below w.heap.size w w' := by
  have HA := Lib.hid h
  obtain ⟨a, A, ca, rfl, _⟩ := h
  generalize a.length = na at *
  have hs : EM.sgn (n - 9223372036854775807) = 1 := by unfold EM.sgn; rw [if_neg (by omega), if_neg (by omega)]
  have HS := Lib.hid hs
  clear hs hn
  generalize EM.sgn n = sn at *
  go_enter Try.func22, Try.ntmps22
  go_wp2_with fail
  have xa := Blk.new w 64 #[.int .i64 sn, .slice A na ca]
  have b1 := Below.alloc1 w (.cells #[.int .i64 sn, .slice A na ca] 64)
  revert xa b1
  generalize (w.alloc (.cells #[.int .i64 sn, .slice A na ca] 64)) = W
  intro xa b1
  have e1 : W.cell? ⟨w.heap.size, 0, none⟩ = some (.int .i64 sn) := xa.cell 0
  have e2 : W.cell? ⟨w.heap.size, 1, none⟩ = some (.slice A na ca) := xa.cell 1
  have XA := Lib.hid xa
  have B1 := Lib.hid b1
  clear xa b1
  go_region_with
    (first
      | (go_at_call 21; refine (of_any (fun _ => True) 9223372036854775807 _ ?_ ?_).mono ?_; exact fun _ _ => trivial; decide; rintro e w1 ⟨vm, rfl, hxm, hb1⟩; have HL1 := Lib.hid ((Later.refl W).drew.trans hb1); have HM := Lib.hid hxm; clear hxm hb1; have c1 : w1.cell? ⟨w.heap.size, 0, none⟩ = some (.int .i64 sn) := HL1.out.cell e1; have c2 : w1.cell? ⟨w.heap.size, 1, none⟩ = some (.slice A na ca) := HL1.out.cell e2)
      | (go_at_call 38; refine (cmp_any _ _ n 9223372036854775807 k _ ?_ ?_ (by omega) 1 HS.out).mono ?_; exact (HA.out.below B1.out).later HL1.out; exact HM.out.more hk7; rintro e w2 ⟨rfl, hb2⟩; have HL2 := Lib.hid (HL1.out.trans hb2); clear hb2; have d1 : w2.cell? ⟨w.heap.size, 0, none⟩ = some (.int .i64 sn) := HL2.out.cell e1; have d2 : w2.cell? ⟨w.heap.size, 1, none⟩ = some (.slice A na ca) := HL2.out.cell e2))
  all_goals
    go_wp2_with fail
    go_ret2
    exact ⟨rfl, Below.trans B1.out (HL2.out.mono B1.out.size)⟩

set_option maxHeartbeats 2000000 in
set_option maxRecDepth 100000 in
theorem fit_under (v : Value) (n : Int) (k : Nat) (w : World) (h : Ex w (fun _ => True) v n k) (hk : k ≤ 90000) (hk7 : 7 ≤ k) (hn : n < -9223372036854775808) :
    Calls Try.prog 22 #[v] w fun e w' => e = .returned (.tuple #[.int .i64 0, .int .i64 3]) ∧ Below w.heap.size w w' := by
  have HA := Lib.hid h
  obtain ⟨a, A, ca, rfl, _⟩ := h
  generalize a.length = na at *
  have hs : EM.sgn (n - 9223372036854775807) = -1 := by unfold EM.sgn; rw [if_pos (by omega)]
  have hs2 : EM.sgn (n - (-9223372036854775808)) = -1 := by unfold EM.sgn; rw [if_pos (by omega)]
  have HS := Lib.hid hs
  have HS2 := Lib.hid hs2
  clear hs hs2 hn
  generalize EM.sgn n = sn at *
  go_enter Try.func22, Try.ntmps22
  go_wp2_with fail
  have xa := Blk.new w 64 #[.int .i64 sn, .slice A na ca]
  have b1 := Below.alloc1 w (.cells #[.int .i64 sn, .slice A na ca] 64)
  revert xa b1
  generalize (w.alloc (.cells #[.int .i64 sn, .slice A na ca] 64)) = W
  intro xa b1
  have e1 : W.cell? ⟨w.heap.size, 0, none⟩ = some (.int .i64 sn) := xa.cell 0
  have e2 : W.cell? ⟨w.heap.size, 1, none⟩ = some (.slice A na ca) := xa.cell 1
  have XA := Lib.hid xa
  have B1 := Lib.hid b1
  clear xa b1
  have HL0 := Lib.hid ((Later.refl W).drew)
  go_region_held3 (fun w' => w'.cell? ⟨w.heap.size, 0, none⟩ = some (.int .i64 sn) ∧ w'.cell? ⟨w.heap.size, 1, none⟩ = some (.slice A na ca))
    (first | (go_keep; done) | (go_split_ands; exact ⟨c1, c2⟩) | (go_split_ands; exact ⟨d1, d2⟩) | (go_split_ands; exact ⟨c3, c4⟩) | (go_split_ands; exact ⟨d3, d4⟩))
    (first
      | (go_at_call_of 21 (Value.int IntKind.i64 9223372036854775807); refine (of_any (fun _ => True) 9223372036854775807 _ ?_ ?_).mono ?_; exact fun _ _ => trivial; decide; rintro e w1 ⟨vm, rfl, hxm, hb1⟩; have HL1 := Lib.hid (HL0.out.trans hb1); have HM := Lib.hid hxm; clear hxm hb1; have c1 : w1.cell? ⟨w.heap.size, 0, none⟩ = some (.int .i64 sn) := HL1.out.cell e1; have c2 : w1.cell? ⟨w.heap.size, 1, none⟩ = some (.slice A na ca) := HL1.out.cell e2)
      | (go_at_call_of 38 vm; refine (cmp_any _ _ n 9223372036854775807 k _ ?_ ?_ (by omega) (-1) HS.out).mono ?_; exact (HA.out.below B1.out).later HL1.out; exact HM.out.more hk7; rintro e w2 ⟨rfl, hb2⟩; have HL2 := Lib.hid (HL1.out.trans hb2); clear hb2; have d1 : w2.cell? ⟨w.heap.size, 0, none⟩ = some (.int .i64 sn) := HL2.out.cell e1; have d2 : w2.cell? ⟨w.heap.size, 1, none⟩ = some (.slice A na ca) := HL2.out.cell e2)
      | (go_at_call 21; refine (of_any (fun _ => True) (-9223372036854775808) _ ?_ ?_).mono ?_; exact fun _ _ => trivial; decide; rintro e w3 ⟨vl, rfl, hxl, hb3⟩; have HL3 := Lib.hid (HL2.out.trans hb3); have HN := Lib.hid hxl; clear hxl hb3; have c3 : w3.cell? ⟨w.heap.size, 0, none⟩ = some (.int .i64 sn) := HL3.out.cell e1; have c4 : w3.cell? ⟨w.heap.size, 1, none⟩ = some (.slice A na ca) := HL3.out.cell e2)
      | (go_at_call 38; refine (cmp_any _ _ n (-9223372036854775808) k _ ?_ ?_ (by omega) (-1) HS2.out).mono ?_; exact (HA.out.below B1.out).later HL3.out; exact HN.out.more hk7; rintro e w4 ⟨rfl, hb4⟩; have HL4 := Lib.hid (HL3.out.trans hb4); clear hb4; have d3 : w4.cell? ⟨w.heap.size, 0, none⟩ = some (.int .i64 sn) := HL4.out.cell e1; have d4 : w4.cell? ⟨w.heap.size, 1, none⟩ = some (.slice A na ca) := HL4.out.cell e2))
  go_wp2_with fail
  go_ret2
  exact ⟨rfl, Below.trans B1.out (HL4.out.mono B1.out.size)⟩
end Go.Proofs.Ytbdhbongaikphaa.Exact
