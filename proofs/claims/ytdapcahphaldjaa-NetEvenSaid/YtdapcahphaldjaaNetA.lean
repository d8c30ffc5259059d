/- The walks of net: lay. -/
import Derived.Test.YtdapcahphaldjaaCents
import Derived.Test.YtdapcahphaldjaaSum
import Derived.Test.YtdapcahphaldjaaMem2
import Derived.Deep.RegionLaw
namespace Go.Proofs.Ytdapcahphaldjaa.Net
open Go.RowKit Go.Proofs.Ytdapcahphaldjaa.Cents
set_option linter.unusedVariables false
set_option linter.unusedSimpArgs false

theorem info_post : (Try.prog.info? 56).map (fun i => (i.zero, i.size, i.bytes)) = some (some (.agg #[.int .i64 0, .int .i64 0, .int .i64 0]), 3, 24) := by kernel_rfl
theorem E_post : ElemT Try.prog 46 56 3 24 := .mk' Try.underlying46 info_post rfl (by decide)

/-- A posting: account, contract, amount. -/
structure Post where
  acc : Int
  ct : Int
  amt : Int
deriving DecidableEq
def Post.cells (p : Post) : List Value := [.int .i64 p.acc, .int .i64 p.ct, .int .i64 p.amt]
def cells (ps : List Post) : List Value := ps.flatMap Post.cells
theorem cells_len (ps : List Post) : (cells ps).length = ps.length * 3 := by
  induction ps with
  | nil => rfl
  | cons p ps ih => simp only [cells, List.flatMap_cons, List.length_append] at ih ⊢; rw [ih]; simp [Post.cells]; omega
theorem cells_append (a b : List Post) : cells (a ++ b) = cells a ++ cells b := by simp [cells]
theorem cells_one (p : Post) : cells [p] = p.cells := by simp [cells]

/-- What lay lays. -/
def layP (ct : Int) (acc amt : Int) : List Post := if amt = 0 then [] else [⟨acc, ct, amt⟩]

/-- What a call of lay leaves: the block of the postings is g, its row v. -/
def LayRet (w : World) (g : Nat) (ct : Int) (v : Value) (ps : List Post) (e : Ending) (w' : World) : Prop :=
  ∃ v' , e = .returned (.tuple #[]) ∧ Blk w' g 96 #[.int .i64 ct, v'] ∧ w'.ownsRow (g + 1) 56 3 v' ps.length (cells ps) ∧ (∃ A c, v' = .slice A ps.length c) ∧
    (v'.ownBlock = v.ownBlock ∨ ∀ q, v'.ownBlock = some q → w.heap.size ≤ q) ∧ Fr (fun k => k = g ∨ some k = v.ownBlock) w w'

set_option maxHeartbeats 1000000 in
set_option maxRecDepth 100000 in
theorem lay_any (g : Nat) (ct acc amt : Int) (A : Option Addr) (c : Nat) (ps : List Post) (w : World) (hb : Blk w g 96 #[.int .i64 ct, .slice A ps.length c]) (ho : w.ownsRow (g + 1) 56 3 (.slice A ps.length c) ps.length (cells ps)) (hl : ps.length ≤ 1000000) :
    Calls Try.prog 64 #[.pointer (some ⟨g, 0, none⟩), .int .i64 acc, .int .i64 amt] w (LayRet w g ct (.slice A ps.length c) (ps ++ layP ct acc amt)) := by
  have HB := Lib.hid hb
  have HO := Lib.hid ho
  have c0 : w.cell? ⟨g, 0, none⟩ = some (.int .i64 ct) := hb.cell 0
  have c1 : w.cell? ⟨g, 1, none⟩ = some (.slice A ps.length c) := hb.cell 1
  have f1 := hb.frozen 1
  have hsz := hb.lt
  clear hb ho
  by_cases hz : amt = 0
  · subst hz
    go_enter Try.func64, Try.ntmps64
    go_wp2
    go_end0
    refine ⟨_, rfl, HB.out, ?_, ?_, .inl rfl, Fr.refl _ _⟩
    · simpa [layP] using HO.out
    · exact ⟨A, c, by simp [layP]⟩
  · have hb1 : (ps.length + 1) * 24 ≤ 140737488355328 := by omega
    have hb2 : ps.length + 1 ≤ maxLen := by unfold maxLen; omega
    have hzb : (amt == 0) = false := by simpa using hz
    have e1 : layP ct acc amt = [⟨acc, ct, amt⟩] := by unfold layP; rw [if_neg hz]
    have E1 := Lib.hid e1
    clear hz e1
    go_enter Try.func64, Try.ntmps64
    go_wp2
    go_region_law (refine step_app E_post rfl (.tmp 12) (.tmp 20) rfl rfl ((HO.out.alloc _).drew) ⟨w.heap.size, 0, none⟩ 1 1 [_, _, _] rfl rfl (World.news_of_block (heap_alloc_new w _)) (by simp [Value.oneCell']) hb1 hb2 (by simp; omega) (by decide) (w.heap.size + 1) (by simp) ?_; intro q cap w1 hown1 hg1 hat1 hlt1; have bp1 : Blk w1 g 96 #[.int .i64 ct, .slice A ps.length c] := Blk.grown (Blk.drew (HB.out.alloc _)) hg1 (own_ne HO.out (by omega)); have d1 : w1.cell? ⟨g, 1, none⟩ = some (.slice A ps.length c) := bp1.cell 1; have d2 := bp1.frozen 1; have BP := Lib.hid bp1; have HW := Lib.hid hown1; have HG := Lib.hid hg1; have HA := Lib.hid hat1; clear bp1 hown1 hg1 hat1)
    all_goals
      go_wp2
      go_end0
      refine ⟨.slice (some ⟨q, 0, none⟩) (ps.length + 1) cap, rfl, BP.out.set_ 1 _, ?_, ⟨_, cap, by rw [List.length_append, E1.out]; rfl⟩, ?_, ?_⟩
      · have := ownsRow_setCell_below HW.out (a := ⟨g, 1, none⟩) (by simp) (.slice (some ⟨q, 0, none⟩) (ps.length + 1) cap)
        rw [List.length_append, E1.out, cells_append, cells_one]; exact this
      · rcases HA.out with h | h
        · exact .inl h.symm
        · refine .inr fun x hx => ?_
          have : x = q := by simpa [Value.ownBlock] using hx.symm
          omega
      · refine Fr.setCell ((((Fr.refl _ _).alloc _).drew).grown HG.out (fun k hk _ => .inr hk.symm)) (fun _ => .inl rfl) _

/-! ### Sides -/
def liab (b r : Int) : Int := if 0 < b - r then b - r else 0
def asset (b r : Int) : Int := if 0 < r - b then r - b else 0
theorem sides_any (b r : Int) (w : World) (hb : 0 ≤ b) (hr : 0 ≤ r) (hb2 : b < 9223372036854775808) (hr2 : r < 9223372036854775808) (x y : Int) (hx : liab b r = x) (hy : asset b r = y) :
    Calls Try.prog 25 #[.int .i64 b, .int .i64 r] w fun e w' => e = .returned (.tuple #[.int .i64 x, .int .i64 y, .int .i64 0]) ∧ w = w' := by
  rcases Int.lt_trichotomy b r with h | h | h
  · have ex : x = 0 := by rw [← hx]; unfold liab; rw [if_neg (by omega)]
    have ey : y = r - b := by rw [← hy]; unfold asset; rw [if_pos (by omega)]
    have EX := Lib.hid ex
    have EY := Lib.hid ey
    clear hx hy ex ey
    go_enter Try.func25, Try.ntmps25
    go_wp2
    all_goals (first | (exfalso; omega) | skip)
    go_ret3
    exact ⟨by rw [EX.out, EY.out]; rfl, rfl⟩
  · subst h
    have ex : x = 0 := by rw [← hx]; unfold liab; rw [if_neg (by omega)]
    have ey : y = 0 := by rw [← hy]; unfold asset; rw [if_neg (by omega)]
    have EX := Lib.hid ex
    have EY := Lib.hid ey
    clear hx hy ex ey
    go_enter Try.func25, Try.ntmps25
    go_wp2
    go_ret3
    exact ⟨by rw [EX.out, EY.out]; simp, rfl⟩
  · have ex : x = b - r := by rw [← hx]; unfold liab; rw [if_pos (by omega)]
    have ey : y = 0 := by rw [← hy]; unfold asset; rw [if_neg (by omega)]
    have EX := Lib.hid ex
    have EY := Lib.hid ey
    clear hx hy ex ey
    go_enter Try.func25, Try.ntmps25
    go_wp2
    go_ret3
    exact ⟨by rw [EX.out, EY.out]; rfl, rfl⟩
theorem sides_bad (b r : Int) (w : World) (h : b < 0 ∨ r < 0) :
    Calls Try.prog 25 #[.int .i64 b, .int .i64 r] w fun e w' => e = .returned (.tuple #[.int .i64 0, .int .i64 0, .int .i64 1]) ∧ w = w' := by
  by_cases c : b < 0
  · clear h
    go_enter Try.func25, Try.ntmps25
    go_wp2
    go_ret3
    exact ⟨rfl, rfl⟩
  · have d : r < 0 := by omega
    clear h
    go_enter Try.func25, Try.ntmps25
    go_wp2
    go_ret3
    exact ⟨rfl, rfl⟩

/-! ### turn -/
/-- What a change lays. -/
def chg (ct fb fr tb tr : Int) : List Post := layP ct 0 (tb - fb) ++ layP ct 1 (liab fb fr - liab tb tr) ++ layP ct 2 (asset tb tr - asset fb fr) ++ layP ct 3 (fr - tr)

/-- The world in turn: the boxes of both states; the postings so far. -/
structure TW (w0 : World) (g : Nat) (ct fb fr tb tr : Int) (ps : List Post) (v : Value) (wr : World) : Prop where
  xa : Blk wr w0.heap.size 83 #[.int .i64 fb, .int .i64 fr]
  xb : Blk wr (w0.heap.size + 1) 83 #[.int .i64 tb, .int .i64 tr]
  pb : Blk wr g 96 #[.int .i64 ct, v]
  own : wr.ownsRow (g + 1) 56 3 v ps.length (cells ps)
  shape : ∃ A c, v = .slice A ps.length c
  new : ∀ q, v.ownBlock = some q → w0.heap.size + 2 ≤ q
  fr_ : Fr (fun k => k = g) w0 wr
  gl : g < w0.heap.size
theorem TW.step {w0 wr w' : World} {g : Nat} {ct fb fr tb tr : Int} {ps qs : List Post} {v : Value} {e : Ending} (h : TW w0 g ct fb fr tb tr ps v wr) (k : LayRet wr g ct v (ps ++ qs) e w') :
    ∃ v', e = .returned (.tuple #[]) ∧ TW w0 g ct fb fr tb tr (ps ++ qs) v' w' := by
  obtain ⟨v', he, h1, h2, h3, h4, h5⟩ := k
  have hx := h.xb.lt
  have hgl := h.gl
  refine ⟨v', he, h.xa.fr h5 ?_, h.xb.fr h5 ?_, h1, h2, h3, ?_, ?_, h.gl⟩
  · rintro (hh | hh)
    · omega
    · have := h.new _ hh.symm; omega
  · rintro (hh | hh)
    · omega
    · have := h.new _ hh.symm; omega
  · intro q hq
    rcases h4 with h6 | h6
    · exact h.new q (h6 ▸ hq)
    · have := h6 q hq; omega
  · refine h.fr_.then h5 ?_
    rintro q hq (hh | hh)
    · exact hh
    · have := h.new _ hh.symm; omega
theorem lay_tw {w0 wr : World} {g : Nat} {ct fb fr tb tr : Int} {ps : List Post} {v : Value} (h : TW w0 g ct fb fr tb tr ps v wr) (hl : ps.length ≤ 1000) (acc amt : Int) :
    Calls Try.prog 64 #[.pointer (some ⟨g, 0, none⟩), .int .i64 acc, .int .i64 amt] wr fun e w' => ∃ v', e = .returned (.tuple #[]) ∧ TW w0 g ct fb fr tb tr (ps ++ layP ct acc amt) v' w' := by
  obtain ⟨A, c, rfl⟩ := h.shape
  exact (lay_any g ct acc amt A c ps wr h.pb h.own (by omega)).mono fun _ _ k => h.step k
theorem layP_len (ct acc amt : Int) : (layP ct acc amt).length ≤ 1 := by unfold layP; split <;> simp
/-- What turn leaves. -/
def TurnRet (w : World) (g : Nat) (ct : Int) (ps : List Post) (e : Ending) (w' : World) : Prop :=
  ∃ A c, e = .returned (.tuple #[]) ∧ Blk w' g 96 #[.int .i64 ct, .slice A ps.length c] ∧ w'.ownsRow (g + 1) 56 3 (.slice A ps.length c) ps.length (cells ps) ∧ Fr (fun k => k = g) w w'

set_option maxHeartbeats 2000000 in
set_option maxRecDepth 100000 in
theorem turn_any (g : Nat) (ct fb fr tb tr : Int) (w : World) (hb : Blk w g 96 #[.int .i64 ct, .slice none 0 0]) (h1 : 0 ≤ fb) (h2 : 0 ≤ fr) (h3 : 0 ≤ tb) (h4 : 0 ≤ tr)
    (g1 : fb < 9223372036854775808) (g2 : fr < 9223372036854775808) (g3 : tb < 9223372036854775808) (g4 : tr < 9223372036854775808) :
    Calls Try.prog 63 #[.agg #[.int .i64 fb, .int .i64 fr], .agg #[.int .i64 tb, .int .i64 tr], .func (.func 64) #[.pointer (some ⟨g, 0, none⟩)] #[]] w (TurnRet w g ct (chg ct fb fr tb tr)) := by
  have hstart : TW w g ct fb fr tb tr [] (.slice none 0 0) ((w.alloc (.cells #[.int .i64 fb, .int .i64 fr] 83)).alloc (.cells #[.int .i64 tb, .int .i64 tr] 83)) :=
    ⟨(Blk.new w _ _).alloc _, by have := Blk.new (w.alloc (.cells #[.int .i64 fb, .int .i64 fr] 83)) 83 #[.int .i64 tb, .int .i64 tr]; simpa using this, (hb.alloc _).alloc _, World.ownsRow_nil _ _ _ _, ⟨none, 0, rfl⟩, by simp [Value.ownBlock], ((Fr.refl _ _).alloc _).alloc _, hb.lt⟩
  obtain ⟨l1, hl1⟩ : ∃ x, liab fb fr = x := ⟨_, rfl⟩
  obtain ⟨s1, hs1⟩ : ∃ x, asset fb fr = x := ⟨_, rfl⟩
  obtain ⟨l2, hl2⟩ : ∃ x, liab tb tr = x := ⟨_, rfl⟩
  obtain ⟨s2, hs2⟩ : ∃ x, asset tb tr = x := ⟨_, rfl⟩
  have r1 : 0 ≤ l1 ∧ l1 ≤ fb := by rw [← hl1]; unfold liab; split <;> omega
  have r2 : 0 ≤ s1 ∧ s1 ≤ fr := by rw [← hs1]; unfold asset; split <;> omega
  have r3 : 0 ≤ l2 ∧ l2 ≤ tb := by rw [← hl2]; unfold liab; split <;> omega
  have r4 : 0 ≤ s2 ∧ s2 ≤ tr := by rw [← hs2]; unfold asset; split <;> omega
  obtain ⟨r10, r11⟩ := r1
  obtain ⟨r20, r21⟩ := r2
  obtain ⟨r30, r31⟩ := r3
  obtain ⟨r40, r41⟩ := r4
  have HC := Lib.hid (show chg ct fb fr tb tr = [] ++ layP ct 0 (tb - fb) ++ layP ct 1 (l1 - l2) ++ layP ct 2 (s2 - s1) ++ layP ct 3 (fr - tr) by unfold chg; rw [hl1, hs1, hl2, hs2]; simp)
  have L1 := Lib.hid hl1
  have S1 := Lib.hid hs1
  have L2 := Lib.hid hl2
  have S2 := Lib.hid hs2
  clear hl1 hs1 hl2 hs2
  have T0 := Lib.hid hstart
  clear hstart hb
  go_enter Try.func63, Try.ntmps63
  go_wp2_with fail
  refine (sides_any _ _ _ h1 h2 g1 g2 l1 s1 L1.out S1.out).mono ?_
  rintro e w1 ⟨rfl, rfl⟩
  go_wp2_with fail
  refine (sides_any _ _ _ h3 h4 g3 g4 l2 s2 L2.out S2.out).mono ?_
  rintro e w1 ⟨rfl, rfl⟩
  go_wp2_with fail
  refine (lay_tw T0.out (by simp) _ _).mono ?_
  rintro e w1 ⟨v1, rfl, ht1⟩
  have hxa1 : w1.cell? ⟨w.heap.size, 0, none⟩ = some (.int .i64 fb) := ht1.xa.cell 0
  have hxb1 : w1.cell? ⟨w.heap.size, 1, none⟩ = some (.int .i64 fr) := ht1.xa.cell 1
  have hxc1 : w1.cell? ⟨w.heap.size + 1, 0, none⟩ = some (.int .i64 tb) := ht1.xb.cell 0
  have hxd1 : w1.cell? ⟨w.heap.size + 1, 1, none⟩ = some (.int .i64 tr) := ht1.xb.cell 1
  have T1 := Lib.hid ht1
  clear ht1
  go_wp2_with fail
  refine (lay_tw T1.out (by have := layP_len ct 0 (tb - fb); simp; omega) _ _).mono ?_
  rintro e w2 ⟨v2, rfl, ht2⟩
  have hxa2 : w2.cell? ⟨w.heap.size, 0, none⟩ = some (.int .i64 fb) := ht2.xa.cell 0
  have hxb2 : w2.cell? ⟨w.heap.size, 1, none⟩ = some (.int .i64 fr) := ht2.xa.cell 1
  have hxc2 : w2.cell? ⟨w.heap.size + 1, 0, none⟩ = some (.int .i64 tb) := ht2.xb.cell 0
  have hxd2 : w2.cell? ⟨w.heap.size + 1, 1, none⟩ = some (.int .i64 tr) := ht2.xb.cell 1
  have T2 := Lib.hid ht2
  clear ht2
  go_wp2_with fail
  refine (lay_tw T2.out (by have := layP_len ct 0 (tb - fb); have := layP_len ct 1 (l1 - l2); simp; omega) _ _).mono ?_
  rintro e w3 ⟨v3, rfl, ht3⟩
  have hxa3 : w3.cell? ⟨w.heap.size, 0, none⟩ = some (.int .i64 fb) := ht3.xa.cell 0
  have hxb3 : w3.cell? ⟨w.heap.size, 1, none⟩ = some (.int .i64 fr) := ht3.xa.cell 1
  have hxc3 : w3.cell? ⟨w.heap.size + 1, 0, none⟩ = some (.int .i64 tb) := ht3.xb.cell 0
  have hxd3 : w3.cell? ⟨w.heap.size + 1, 1, none⟩ = some (.int .i64 tr) := ht3.xb.cell 1
  have T3 := Lib.hid ht3
  clear ht3
  go_wp2_with fail
  refine (lay_tw T3.out (by have := layP_len ct 0 (tb - fb); have := layP_len ct 1 (l1 - l2); have := layP_len ct 2 (s2 - s1); simp; omega) _ _).mono ?_
  rintro e w4 ⟨v4, rfl, ht4⟩
  have hxa4 : w4.cell? ⟨w.heap.size, 0, none⟩ = some (.int .i64 fb) := ht4.xa.cell 0
  have hxb4 : w4.cell? ⟨w.heap.size, 1, none⟩ = some (.int .i64 fr) := ht4.xa.cell 1
  have hxc4 : w4.cell? ⟨w.heap.size + 1, 0, none⟩ = some (.int .i64 tb) := ht4.xb.cell 0
  have hxd4 : w4.cell? ⟨w.heap.size + 1, 1, none⟩ = some (.int .i64 tr) := ht4.xb.cell 1
  have T4 := Lib.hid ht4
  clear ht4
  go_wp2_with fail
  go_end0
  obtain ⟨A4, c4, rfl⟩ := T4.out.shape
  have hT := T4.out
  rw [← HC.out] at hT
  refine ⟨A4, c4, rfl, ?_, hT.own, hT.fr_⟩
  exact hT.pb
end Go.Proofs.Ytdapcahphaldjaa.Net
