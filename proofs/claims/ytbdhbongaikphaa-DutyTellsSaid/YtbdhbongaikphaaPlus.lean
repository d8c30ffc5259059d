/- The walk of the reference's sum of exact numbers. -/
import Derived.Test.YtbdhbongaikphaaExactA
namespace Go.Proofs.Ytbdhbongaikphaa.Exact
open Go.RowKit Go.Proofs.Ytbdhbongaikphaa.Cents
set_option linter.unusedVariables false
set_option linter.unusedSimpArgs false

/-- The world in the loops of Plus: the boxes of both numbers, the block of the answer, and the row that is made. -/
structure PlW (w0 : World) (sa sb : Int) (A B : Option Addr) (na nb ca cb : Nat) (out : List Int) (v : Value) (wr : World) : Prop where
  xa : Blk wr w0.heap.size 64 #[.int .i64 sa, .slice A na ca]
  xb : Blk wr (w0.heap.size + 1) 64 #[.int .i64 sb, .slice B nb cb]
  res : Blk wr (w0.heap.size + 2) 64 #[.int .i64 0, .slice none 0 0]
  own : wr.ownsRow (w0.heap.size + 3) 3 1 v out.length (ints out)
  be : Below w0.heap.size w0 wr
theorem PlW.start (w : World) (sa sb : Int) (A B : Option Addr) (na nb ca cb : Nat) :
    PlW w sa sb A B na nb ca cb [] (.slice (some ⟨w.heap.size + 3, 0, none⟩) 0 0) ((((w.alloc (.cells #[.int .i64 sa, .slice A na ca] 64)).alloc (.cells #[.int .i64 sb, .slice B nb cb] 64)).alloc (.cells #[.int .i64 0, .slice none 0 0] 64)).alloc (.cells #[] 3)) where
  xa := (((Blk.new w _ _).alloc _).alloc _).alloc _
  xb := by have := Blk.new (w.alloc (.cells #[.int .i64 sa, .slice A na ca] 64)) 64 #[.int .i64 sb, .slice B nb cb]; exact ((by simpa using this : Blk _ (w.heap.size + 1) _ _).alloc _).alloc _
  res := by have := Blk.new ((w.alloc (.cells #[.int .i64 sa, .slice A na ca] 64)).alloc (.cells #[.int .i64 sb, .slice B nb cb] 64)) 64 #[.int .i64 0, .slice none 0 0]; exact (by simpa using this : Blk _ (w.heap.size + 2) _ _).alloc _
  own := by have := own_empty (((w.alloc (.cells #[.int .i64 sa, .slice A na ca] 64)).alloc (.cells #[.int .i64 sb, .slice B nb cb] 64)).alloc (.cells #[.int .i64 0, .slice none 0 0] 64)) 3 1 (w.heap.size + 3) (by simp); simpa [ints] using this
  be := ((((Below.refl _ _).alloc (Nat.le_refl _) _).alloc (by simp) _).alloc (by simp; omega) _).alloc (by simp; omega) _
theorem PlW.drewN {w0 wr : World} {sa sb : Int} {A B : Option Addr} {na nb ca cb : Nat} {out : List Int} {v : Value} (h : PlW w0 sa sb A B na nb ca cb out v wr) (n : Nat) : PlW w0 sa sb A B na nb ca cb out v (wr.drewN n) :=
  ⟨h.xa, h.xb, h.res, h.own, ⟨h.be.os, h.be.tape, h.be.output, h.be.size, h.be.block⟩⟩
theorem PlW.step {w0 wr w1 : World} {sa sb x : Int} {A B : Option Addr} {na nb ca cb : Nat} {out : List Int} {v v' : Value} {o : Obj} (h : PlW w0 sa sb A B na nb ca cb out v wr)
    (hown : w1.ownsRow (w0.heap.size + 3) 3 1 v' (out.length + 1) (ints out ++ [.int .i64 x])) (hg : (wr.alloc o).grownBy w1 v.ownBlock) : PlW w0 sa sb A B na nb ca cb (out ++ [x]) v' w1 where
  xa := (h.xa.alloc _).grown hg (own_ne h.own (by omega))
  xb := (h.xb.alloc _).grown hg (own_ne h.own (by omega))
  res := (h.res.alloc _).grown hg (own_ne h.own (by omega))
  own := by rw [List.length_append, show ints (out ++ [x]) = ints out ++ [.int .i64 x] by simp [ints]]; exact hown
  be := (h.be.alloc h.be.size _).grown hg (by simp; have := h.be.size; omega) (fun j hj => by have := (h.own.lt j hj).1; omega)

set_option maxHeartbeats 1000000 in
set_option maxRecDepth 100000 in
theorem plus_left (F : Nat → Prop) (v : Value) (A : Option Addr) (na ca : Nat) (n : Int) (k : Nat) (w : World) (hb : Ex w F v n k) :
    Calls Try.prog 20 #[.agg #[.int .i64 0, .slice A na ca], v] w (RetEx w F n k) := by
  obtain ⟨ds, B, c, rfl, h2, h3, h4, h5⟩ := hb
  have H4 := Lib.hid h4
  have H5 := Lib.hid h5
  clear h4 h5
  generalize hs : EM.sgn n = s at *
  have HS := Lib.hid hs
  clear hs
  go_enter Try.func20, Try.ntmps20
  go_wp2
  refine bodyPost_ret (v := .agg #[.int .i64 s, .slice B ds.length c]) (by simp [results, Try.results20, go_sem]) rfl ⟨_, rfl, ?_, ?_⟩
  · exact ⟨ds, B, c, by rw [HS.out], h2, h3, ((H4.out.alloc _).alloc _).alloc _, H5.out⟩
  · exact (((Below.refl _ _).alloc (Nat.le_refl _) _).alloc (by simp) _).alloc (by simp; omega) _
set_option maxHeartbeats 1000000 in
set_option maxRecDepth 100000 in
theorem plus_right (F : Nat → Prop) (v : Value) (B : Option Addr) (nb cb : Nat) (n : Int) (k : Nat) (w : World) (hn : n ≠ 0) (ha : Ex w F v n k) :
    Calls Try.prog 20 #[v, .agg #[.int .i64 0, .slice B nb cb]] w (RetEx w F n k) := by
  obtain ⟨ds, A, c, rfl, h2, h3, h4, h5⟩ := ha
  have H4 := Lib.hid h4
  have H5 := Lib.hid h5
  have hz : (EM.sgn n == 0) = false := by unfold EM.sgn; repeat' split <;> first | rfl | omega
  clear h4 h5 hn
  generalize hs : EM.sgn n = s at *
  have HS := Lib.hid hs
  clear hs
  go_enter Try.func20, Try.ntmps20
  go_wp2
  refine bodyPost_ret (v := .agg #[.int .i64 s, .slice A ds.length c]) (by simp [results, Try.results20, go_sem]) rfl ⟨_, rfl, ?_, ?_⟩
  · exact ⟨ds, A, c, by rw [HS.out], h2, h3, ((H4.out.alloc _).alloc _).alloc _, H5.out⟩
  · exact (((Below.refl _ _).alloc (Nat.le_refl _) _).alloc (by simp) _).alloc (by simp; omega) _
set_option maxHeartbeats 1000000 in
set_option maxRecDepth 100000 in
theorem plus_same (F : Nat → Prop) (s : Int) (a b : List Int) (A B : Option Addr) (ca cb k : Nat) (m n : Int) (w : World) (hF : New w F) (hsz : (s == 0) = false) (hs : EM.sgn (m + n) = s) (hv : ((m + n).natAbs : Int) = EM.val a + EM.val b)
    (ra : RowF w F A (ints a)) (rb : RowF w F B (ints b)) (da : EM.Digs a) (db : EM.Digs b) (la : a.length ≤ k) (lb : b.length ≤ k) (hk : k ≤ 100000) :
    Calls Try.prog 20 #[.agg #[.int .i64 s, .slice A a.length ca], .agg #[.int .i64 s, .slice B b.length cb]] w (RetEx w F (m + n) (k + 1)) := by
  have HF := Lib.hid hF
  have HS := Lib.hid hs
  have HV := Lib.hid hv
  have RA := Lib.hid ra
  have RB := Lib.hid rb
  have DA := Lib.hid da
  have DB := Lib.hid db
  clear hF hs hv ra rb da db
  have hcs : a.length < b.length ∨ b.length < a.length ∨ (a.length ≤ b.length ∧ b.length ≤ a.length) := by omega
  rcases hcs with h1 | h1 | ⟨h1, h2⟩
  all_goals
    go_enter Try.func20, Try.ntmps20
    go_wp2
    go_loopw [5, 6, 7] (fun v o i wr => ∃ (out : List Int) (O : Option Addr) (co j : Nat) (over : Int), v = .slice O out.length co ∧ o = .int .i64 over ∧ i = .int .i64 (j : Int) ∧ j ≤ k + 1 ∧ (j ≤ a.length + 1 ∨ j ≤ b.length + 1) ∧ PlW w s s A B a.length b.length ca cb out v wr ∧ EM.Sum a b out over j) (fun _ _ i _ => k + 2 - (intOf i).toNat)
    case atStart => exact ⟨[], _, _, 0, 0, rfl, rfl, rfl, Nat.zero_le _, .inl (Nat.zero_le _), PlW.start w s s A B _ _ ca cb, EM.Sum.start a b⟩
    case round =>
      obtain ⟨out, O, co, j, over, rfl, rfl, rfl, hj, hj2, hp, hsum⟩ := hrel
      have e1 : wr.cell? ⟨w.heap.size, 0, none⟩ = some (.int .i64 s) := hp.xa.cell 0
      have e2 : wr.cell? ⟨w.heap.size, 1, none⟩ = some (.slice A a.length ca) := hp.xa.cell 1
      have e3 : wr.cell? ⟨w.heap.size + 1, 1, none⟩ = some (.slice B b.length cb) := hp.xb.cell 1
      have e4 : wr.cell? ⟨w.heap.size + 2, 0, none⟩ = some (.int .i64 0) := hp.res.cell 0
      have e5 : wr.cell? ⟨w.heap.size + 2, 1, none⟩ = some (.slice none 0 0) := hp.res.cell 1
      have f4 := hp.res.frozen 0
      have f5 := hp.res.frozen 1
      have o0 := hsum.over0
      have o1 := hsum.over1
      have lo := hsum.len
      have hb1 : (out.length + 1) * 8 ≤ 140737488355328 := by omega
      have hb2 : out.length + 1 ≤ maxLen := by unfold maxLen; omega
      have hsz := hp.res.lt
      have HP := Lib.hid hp
      have HSum := Lib.hid hsum
      have LO := Lib.hid lo
      clear hp hsum lo
      by_cases hlt : j ≤ a.length ∨ j ≤ b.length
      · have a0 := EM.dig_range DA.out j
        have b0 := EM.dig_range DB.out j
        obtain ⟨x0, x1⟩ := a0
        obtain ⟨y0, y1⟩ := b0
        generalize hx : EM.dig a j = x at *
        generalize hy : EM.dig b j = y at *
        have HX := Lib.hid hx
        have HY := Lib.hid hy
        clear hx hy
        have RA' := Lib.hid (RA.out.below HP.out.be)
        have RB' := Lib.hid (RB.out.below HP.out.be)
        have w1 : IntKind.i64.wrap (x + y) = x + y := IntWalk.i64_in _ (by omega)
        have w2 : IntKind.i64.wrap (x + y + over) = x + y + over := IntWalk.i64_in _ (by omega)
        go_wp2_with fail
        go_quiet ((first | (go_at_call 35; (with_reducible refine (quiet_at F A a ca j _ wr RA'.out).mono ?_); rintro e w' ⟨rfl, hq⟩; exact ⟨by rw [HX.out], hq⟩) | (go_at_call 35; (with_reducible refine (quiet_at F B b cb j _ wr RB'.out).mono ?_); rintro e w' ⟨rfl, hq⟩; exact ⟨by rw [HY.out], hq⟩)))
        clear w1 w2
        have HQ := Lib.hid (HP.out.drewN nq)
        go_wp2_with (at_builtin; refine wpList_app E_int rfl (.tmp 48) (.tmp 51) rfl (n := out.length) (xs := ints out) rfl (HQ.out.own.alloc _) ⟨wr.heap.size, 0, none⟩ 1 1 [_] rfl rfl (cell_one_new _ _ _) (one_cell _ _) hb1 hb2 (by simp; omega) (by decide) ?_; intro g cap w2 hown1 hg1 hat1; have HO := Lib.hid hown1; have HG := Lib.hid hg1; have hx2 := HQ.out.step hown1 hg1; have HX2 := Lib.hid hx2; clear hown1 hg1 hat1 hx2)
        go_roundw
        case rel => exact ⟨out ++ [_], _, _, j + 1, _, by rw [List.length_append]; rfl, rfl, by go_num, by omega, by omega, HX2.out, by rw [← HX.out, ← HY.out]; exact HSum.out.step DA.out DB.out⟩
        case measure => simp only [intOf]; omega
      · obtain ⟨j', rfl⟩ : ∃ j', j = j' + 1 := ⟨j - 1, by omega⟩
        have hdone := HSum.out.done DA.out DB.out (by omega) (by omega)
        have hv2 : EM.val out = ((m + n).natAbs : Int) := by rw [HV.out]; exact hdone
        have hlo : out.length ≤ k + 1 := by have := LO.out; omega
        have HM := Lib.hid (made_any (fun q => w.heap.size + 2 < q) s O out co (m + n) wr ((Row.of_own HP.out.own (by decide)).rowF (fun q hq _ => by omega)) HSum.out.digs (own_cap HP.out.own) (by omega) hv2 (fun _ => HS.out.symm))
        clear hdone hv2
        go_wp2_with fail
        refine HM.out.mono ?_
        rintro e w2 ⟨_, rfl, ⟨es, A2, c2, rfl, h2', h3', h4', h5'⟩, hb2'⟩
        have hres2 := HP.out.res.below hb2' hsz
        have hc2 : w2.cell? ⟨w.heap.size + 2, 0, none⟩ = some (.int .i64 0) := hres2.cell 0
        have hc3 : w2.cell? ⟨w.heap.size + 2, 1, none⟩ = some (.slice none 0 0) := hres2.cell 1
        have hf2 := hres2.frozen 0
        have hf3 := hres2.frozen 1
        have H4 := Lib.hid h4'
        have H5 := Lib.hid h5'
        have HB2 := Lib.hid hb2'
        clear h4' h5' hb2' hres2 e1 e2 e3 e4 e5 f4 f5
        go_wp2_with fail
        refine bodyPost_ret (v := .agg #[.int .i64 (EM.sgn (m + n)), .slice A2 es.length c2]) (by simp [results, Try.results20, go_sem, hc2, hc3]) rfl ⟨_, rfl, ?_, ?_⟩
        · refine ⟨es, A2, c2, rfl, h2', by omega, ?_, H5.out⟩
          exact RowF.weak ((H4.out.setCell (by simp) _).setCell (by simp) _) (fun q hq _ => HF.out q (by omega))
        · exact ((HP.out.be.trans (HB2.out.mono HP.out.be.size)).setCell (by simp; omega) _).setCell (by simp; omega) _
theorem least_is (F : Nat → Prop) (A B : Option Addr) (a b : List Int) (c d : Nat) (w : World) (x : Bool) (ha : RowF w F A (ints a)) (hb : RowF w F B (ints b)) (da : EM.Digs a) (db : EM.Digs b) (la : a.length ≤ 1000000) (lb : b.length ≤ 1000000) (hx : decide (EM.val a < EM.val b) = x) :
    Calls Try.prog 37 #[.slice A a.length c, .slice B b.length d] w fun e w' => e = .returned (.bool x) ∧ Quiet w w' := hx ▸ least_any F A B a b c d w ha hb da db la lb
theorem RowF.a4 {w : World} {F : Nat → Prop} {A : Option Addr} {xs : List Value} (h : RowF w F A xs) (o1 o2 o3 o4 : Obj) : RowF ((((w.alloc o1).alloc o2).alloc o3).alloc o4) F A xs := (((h.alloc _).alloc _).alloc _).alloc _
set_option maxHeartbeats 1000000 in
set_option maxRecDepth 100000 in
theorem plus_diff (F : Nat → Prop) (sa sb : Int) (a b : List Int) (A B : Option Addr) (ca cb k : Nat) (m n : Int) (w : World) (hF : New w F) (sa0 : (sa == 0) = false) (sb0 : (sb == 0) = false) (sab : (sa == sb) = false) (hs : m + n ≠ 0 → EM.sgn (m + n) = sa)
    (hv : ((m + n).natAbs : Int) = EM.val a - EM.val b) (ra : RowF w F A (ints a)) (rb : RowF w F B (ints b)) (da : EM.Digs a) (db : EM.Digs b) (nb : EM.Norm b) (la : a.length ≤ k) (lb : b.length ≤ k) (hk : k ≤ 100000) :
    Calls Try.prog 20 #[.agg #[.int .i64 sa, .slice A a.length ca], .agg #[.int .i64 sb, .slice B b.length cb]] w (RetEx w F (m + n) (k + 1)) := by
  have hle : EM.val b ≤ EM.val a := by omega
  have hlen := EM.len_of_le da db nb hle
  have hls : decide (EM.val a < EM.val b) = false := by simp; omega
  have HLS := Lib.hid hls
  have HF := Lib.hid hF
  have HS := Lib.hid hs
  have HV := Lib.hid hv
  have RA := Lib.hid ra
  have RB := Lib.hid rb
  have DA := Lib.hid da
  have DB := Lib.hid db
  have HLE := Lib.hid hle
  clear hF hs hv ra rb da db hle hls nb
  go_enter Try.func20, Try.ntmps20
  go_wp2_with fail
  refine (least_is F A B a b ca cb _ false (RowF.a4 RA.out _ _ _ _) (RowF.a4 RB.out _ _ _ _) DA.out DB.out (by omega) (by omega) HLS.out).mono ?_
  rintro e w9 ⟨rfl, ⟨n9, rfl⟩⟩
  go_wp2_with fail
  go_loopw [5, 9, 10] (fun v o i wr => ∃ (out : List Int) (O : Option Addr) (co j : Nat) (bor : Int), v = .slice O out.length co ∧ o = .int .i64 bor ∧ i = .int .i64 (j : Int) ∧ j ≤ a.length ∧ PlW w sa sb A B a.length b.length ca cb out v wr ∧ EM.Sub a b out bor j) (fun _ _ i _ => a.length - (intOf i).toNat)
  case atStart => exact ⟨[], _, _, 0, 0, rfl, rfl, rfl, Nat.zero_le _, (PlW.start w sa sb A B _ _ ca cb).drewN n9, EM.Sub.start a b⟩
  case round =>
    obtain ⟨out, O, co, j, bor, rfl, rfl, rfl, hj, hp, hsum⟩ := hrel
    have e1 : wr.cell? ⟨w.heap.size, 0, none⟩ = some (.int .i64 sa) := hp.xa.cell 0
    have e2 : wr.cell? ⟨w.heap.size, 1, none⟩ = some (.slice A a.length ca) := hp.xa.cell 1
    have e3 : wr.cell? ⟨w.heap.size + 1, 1, none⟩ = some (.slice B b.length cb) := hp.xb.cell 1
    have e4 : wr.cell? ⟨w.heap.size + 2, 0, none⟩ = some (.int .i64 0) := hp.res.cell 0
    have e5 : wr.cell? ⟨w.heap.size + 2, 1, none⟩ = some (.slice none 0 0) := hp.res.cell 1
    have f4 := hp.res.frozen 0
    have f5 := hp.res.frozen 1
    have o0 := hsum.b0
    have o1 := hsum.b1
    have lo := hsum.len
    have hb1 : (out.length + 1) * 8 ≤ 140737488355328 := by omega
    have hb2 : out.length + 1 ≤ maxLen := by unfold maxLen; omega
    have hsz := hp.res.lt
    have HP := Lib.hid hp
    have HSum := Lib.hid hsum
    have LO := Lib.hid lo
    clear hp hsum lo
    by_cases hlt : j < a.length
    · obtain ⟨x0, x1⟩ := EM.dig_range DA.out j
      obtain ⟨y0, y1⟩ := EM.dig_range DB.out j
      obtain ⟨ad, hA, hc⟩ := RowF.dig (RA.out.below HP.out.be) hlt
      subst hA
      have RB' := Lib.hid (RB.out.below HP.out.be)
      generalize hx : EM.dig a j = x at *
      generalize hy : EM.dig b j = y at *
      have HX := Lib.hid hx
      have HY := Lib.hid hy
      clear hx hy
      have w1 : IntKind.i64.wrap (1000 + x) = 1000 + x := IntWalk.i64_in _ (by omega)
      have w2 : IntKind.i64.wrap (1000 + x - y) = 1000 + x - y := IntWalk.i64_in _ (by omega)
      have w3 : IntKind.i64.wrap (1000 + x - y - bor) = 1000 + x - y - bor := IntWalk.i64_in _ (by omega)
      go_wp2_with fail
      go_quiet ((go_at_call 35; (with_reducible refine (quiet_at F B b cb j _ wr RB'.out).mono ?_); rintro e w' ⟨rfl, hq⟩; exact ⟨by rw [HY.out], hq⟩))
      clear w1 w2 w3
      have HQ := Lib.hid (HP.out.drewN nq)
      go_wp2_with (at_builtin; refine wpList_app E_int rfl (.tmp 87) (.tmp 90) rfl (n := out.length) (xs := ints out) rfl (HQ.out.own.alloc _) ⟨wr.heap.size, 0, none⟩ 1 1 [_] rfl rfl (cell_one_new _ _ _) (one_cell _ _) hb1 hb2 (by simp; omega) (by decide) ?_; intro g cap w2 hown1 hg1 hat1; have HO := Lib.hid hown1; have HG := Lib.hid hg1; have hx2 := HQ.out.step hown1 hg1; have HX2 := Lib.hid hx2; clear hown1 hg1 hat1 hx2)
      go_roundw
      case rel => exact ⟨out ++ [_], _, _, j + 1, _, by rw [List.length_append]; rfl, rfl, by go_num, by omega, HX2.out, by rw [← HX.out, ← HY.out]; exact HSum.out.step DA.out DB.out⟩
      case measure => simp only [intOf]; omega
    · obtain rfl : j = a.length := by omega
      have hdone := HSum.out.done DA.out DB.out hlen HLE.out
      have hv2 : EM.val out = ((m + n).natAbs : Int) := by rw [HV.out]; exact hdone
      have hlo : out.length ≤ k + 1 := by have := LO.out; omega
      have HM := Lib.hid (made_any (fun q => w.heap.size + 2 < q) sa O out co (m + n) wr ((Row.of_own HP.out.own (by decide)).rowF (fun q hq _ => by omega)) HSum.out.digs (own_cap HP.out.own) (by omega) hv2 (fun h => (HS.out h).symm))
      clear hdone hv2
      go_wp2_with fail
      refine HM.out.mono ?_
      rintro e w2 ⟨_, rfl, ⟨es, A2, c2, rfl, h2', h3', h4', h5'⟩, hb2'⟩
      have hres2 := HP.out.res.below hb2' hsz
      have hc2 : w2.cell? ⟨w.heap.size + 2, 0, none⟩ = some (.int .i64 0) := hres2.cell 0
      have hc3 : w2.cell? ⟨w.heap.size + 2, 1, none⟩ = some (.slice none 0 0) := hres2.cell 1
      have hf2 := hres2.frozen 0
      have hf3 := hres2.frozen 1
      have H4 := Lib.hid h4'
      have H5 := Lib.hid h5'
      have HB2 := Lib.hid hb2'
      clear h4' h5' hb2' hres2 e1 e2 e3 e4 e5 f4 f5
      go_wp2_with fail
      refine bodyPost_end (v := .agg #[.int .i64 (EM.sgn (m + n)), .slice A2 es.length c2]) (by simp [results, Try.results20, go_sem, hc2, hc3]) rfl ⟨_, rfl, ?_, ?_⟩
      · refine ⟨es, A2, c2, rfl, h2', by omega, ?_, H5.out⟩
        exact RowF.weak ((H4.out.setCell (by simp) _).setCell (by simp) _) (fun q hq _ => HF.out q (by omega))
      · exact ((HP.out.be.trans (HB2.out.mono HP.out.be.size)).setCell (by simp; omega) _).setCell (by simp; omega) _
set_option maxHeartbeats 1000000 in
set_option maxRecDepth 100000 in
theorem plus_swap (F : Nat → Prop) (sa sb : Int) (a b : List Int) (A B : Option Addr) (ca cb k : Nat) (m n : Int) (w : World) (hF : New w F) (sa0 : (sa == 0) = false) (sb0 : (sb == 0) = false) (sab : (sa == sb) = false) (hs : n + m ≠ 0 → EM.sgn (n + m) = sb)
    (hv : ((n + m).natAbs : Int) = EM.val b - EM.val a) (hlt : EM.val a < EM.val b) (ra : RowF w F A (ints a)) (rb : RowF w F B (ints b)) (da : EM.Digs a) (db : EM.Digs b) (na : EM.Norm a) (la : a.length ≤ k) (lb : b.length ≤ k) (hk : k ≤ 100000) :
    Calls Try.prog 20 #[.agg #[.int .i64 sa, .slice A a.length ca], .agg #[.int .i64 sb, .slice B b.length cb]] w (RetEx w F (n + m) (k + 1)) := by
  have HLS := Lib.hid (show decide (EM.val a < EM.val b) = true by simpa using hlt)
  have sba : (sb == sa) = false := by simp at sab ⊢; omega
  have HF := Lib.hid hF
  have RA := Lib.hid ra
  have RB := Lib.hid rb
  have DA := Lib.hid da
  have DB := Lib.hid db
  have HM := fun (W : World) (n9 : Nat) (hW : Below w.heap.size w W) (hW3 : w.heap.size + 3 ≤ W.heap.size) => plus_diff (fun q => F q ∧ q ≠ w.heap.size + 2) sb sa b a B A cb ca k n m (W.drewN n9) (fun q hq => ⟨hF q (by simp at hq; omega), by simp at hq; omega⟩) sb0 sa0 sba hs hv
    (((rb.weak (G := fun q => F q ∧ q ≠ w.heap.size + 2) (fun q h hq => ⟨h, by omega⟩)).below hW).drewN n9) (((ra.weak (G := fun q => F q ∧ q ≠ w.heap.size + 2) (fun q h hq => ⟨h, by omega⟩)).below hW).drewN n9) db da na lb la hk
  have HM := Lib.hid HM
  clear hF hs hv ra rb da db hlt na
  go_enter Try.func20, Try.ntmps20
  go_wp2_with fail
  refine (least_is F A B a b ca cb _ true (RowF.a4 RA.out _ _ _ _) (RowF.a4 RB.out _ _ _ _) DA.out DB.out (by omega) (by omega) HLS.out).mono ?_
  rintro e w9 ⟨rfl, ⟨n9, rfl⟩⟩
  go_wp2_with fail
  have hp := PlW.start w sa sb A B a.length b.length ca cb
  refine (HM.out _ n9 hp.be (by simp)).mono ?_
  rintro e w2 ⟨_, rfl, ⟨es, A2, c2, rfl, h2', h3', h4', h5'⟩, hb2'⟩
  have hpd := hp.drewN n9
  have hres2 := hpd.res.below hb2' hpd.res.lt
  have hc2 : w2.cell? ⟨w.heap.size + 2, 0, none⟩ = some (.int .i64 0) := hres2.cell 0
  have hc3 : w2.cell? ⟨w.heap.size + 2, 1, none⟩ = some (.slice none 0 0) := hres2.cell 1
  have hf2 := hres2.frozen 0
  have hf3 := hres2.frozen 1
  have H4 := Lib.hid h4'
  have H5 := Lib.hid h5'
  have HB2 := Lib.hid (hpd.be.trans (hb2'.mono hpd.be.size))
  clear h4' h5' hb2' hres2 hp hpd
  go_wp2_with fail
  refine bodyPost_ret (v := .agg #[.int .i64 (EM.sgn (n + m)), .slice A2 es.length c2]) (by simp [results, Try.results20, go_sem, hc2, hc3]) rfl ⟨_, rfl, ?_, ?_⟩
  · refine ⟨es, A2, c2, rfl, h2', by omega, ?_, H5.out⟩
    exact RowF.weak ((H4.out.setCell (by simp) _).setCell (by simp) _) (fun q hq _ => hq.1)
  · exact (HB2.out.setCell (by simp; omega) _).setCell (by simp; omega) _
theorem sgn_zero {n : Int} (h : n ≠ 0) : (EM.sgn n == 0) = false := by unfold EM.sgn; repeat' split <;> first | rfl | omega
theorem plus_any (F : Nat → Prop) (va vb : Value) (m n : Int) (k : Nat) (w : World) (hF : New w F) (ha : Ex w F va m k) (hb : Ex w F vb n k) (hk : k ≤ 100000) :
    Calls Try.prog 20 #[va, vb] w (RetEx w F (m + n) (k + 1)) := by
  have more : ∀ {n : Int} {e : Ending} {w' : World}, RetEx w F n k e w' → RetEx w F n (k + 1) e w' := fun ⟨v, h1, h2, h3⟩ => ⟨v, h1, h2.more (by omega), h3⟩
  by_cases hm : m = 0
  · subst hm
    obtain ⟨a, A, ca, rfl, _⟩ := ha
    rw [Int.zero_add]
    exact (plus_left F vb A _ ca n k w hb).mono fun _ _ h => more h
  · by_cases hn : n = 0
    · subst hn
      obtain ⟨b, B, cb, rfl, _⟩ := hb
      rw [Int.add_zero]
      exact (plus_right F va B _ cb m k w hm ha).mono fun _ _ h => more h
    · obtain ⟨a, A, ca, rfl, hac, hal, har, hat⟩ := ha
      obtain ⟨b, B, cb, rfl, hbc, hbl, hbr, hbt⟩ := hb
      have va := hat.val
      have vb := hbt.val
      by_cases hs : EM.sgn m = EM.sgn n
      · rw [← hs]
        have hs2 : EM.sgn (m + n) = EM.sgn m := by unfold EM.sgn at hs ⊢; (repeat' split at hs) <;> (repeat' split) <;> omega
        have hv2 : ((m + n).natAbs : Int) = EM.val a + EM.val b := by rw [va, vb]; unfold EM.sgn at hs; (repeat' split at hs) <;> omega
        exact plus_same F _ a b A B ca cb k m n w hF (sgn_zero hm) hs2 hv2 har hbr hat.digs hbt.digs hal hbl hk
      · have hs2 : (EM.sgn m == EM.sgn n) = false := by simpa using hs
        by_cases hlt : EM.val a < EM.val b
        · have h1 : n + m ≠ 0 → EM.sgn (n + m) = EM.sgn n := by
            intro _; rw [va, vb] at hlt; unfold EM.sgn at hs ⊢; (repeat' split at hs) <;> (repeat' split) <;> omega
          have h2 : ((n + m).natAbs : Int) = EM.val b - EM.val a := by rw [va, vb] at *; unfold EM.sgn at hs; (repeat' split at hs) <;> omega
          rw [Int.add_comm m n]
          exact plus_swap F _ _ a b A B ca cb k m n w hF (sgn_zero hm) (sgn_zero hn) hs2 h1 h2 hlt har hbr hat.digs hbt.digs hat.norm hal hbl hk
        · have h1 : m + n ≠ 0 → EM.sgn (m + n) = EM.sgn m := by
            intro _; rw [va, vb] at hlt; unfold EM.sgn at hs ⊢; (repeat' split at hs) <;> (repeat' split) <;> omega
          have h2 : ((m + n).natAbs : Int) = EM.val a - EM.val b := by rw [va, vb] at *; unfold EM.sgn at hs; (repeat' split at hs) <;> omega
          exact plus_diff F _ _ a b A B ca cb k m n w hF (sgn_zero hm) (sgn_zero hn) hs2 h1 h2 har hbr hat.digs hbt.digs hbt.norm hal hbl hk
end Go.Proofs.Ytbdhbongaikphaa.Exact
