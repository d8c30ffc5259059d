/- The walks of duty's of, join, Charge. -/
import Derived.Test.YtbdhbongaikphaaDutyB
import Derived.Test.YtbdhbongaikphaaIs01
import Derived.Test.YtbdhbongaikphaaExactA
import Derived.BigQuiet
namespace Go.Proofs.Ytbdhbongaikphaa.BK
open Go.RowKit Go.Proofs.Ytbdhbongaikphaa.Cents Go.Proofs.Ytbdhbongaikphaa.DU Go.Proofs.Ytbdhbongaikphaa.Exact
set_option linter.unusedVariables false
set_option linter.unusedSimpArgs false

set_option maxHeartbeats 1000000 in
set_option maxRecDepth 100000 in
theorem of_any {S : Nat → Prop} {b : Nat} {its : List It} {rows : List PRow} {w : World} (h : BkW S b its rows w) (hl : its.length ≤ 1000000) (at_ : Nat) (x : Ln) (k : Int × Int) (hk : lkey its at_ x = k) :
    Calls Try.prog 24 #[.pointer (some ⟨b, 0, none⟩), .int .i64 (at_ : Int), x.val] w fun e w' => e = .returned (.agg #[.int .i64 k.1, .int .i64 k.2]) ∧ Below w.heap.size w w' := by
  obtain ⟨t1, t2, t3, t4, t5⟩ := x
  dsimp only [Ln.val]
  have HIT := Lib.hid (fun (w1 : World) (hb : Below w.heap.size w w1) => item_any (h.later hb) hl t1 _ _ ⟨rfl, rfl⟩)
  have HA1 := Lib.hid (alloc1 w (.cells #[.int .i64 t1, .int .i64 t2, .int .i64 t3, .int .i64 t4, .int .i64 t5] 45))
  have HA2 := Lib.hid (HA1.out.alloc HA1.out.size (.cells #[.int .i64 0, .int .i64 0] 71))
  have HBX := Lib.hid ((Blk.new w 45 #[.int .i64 t1, .int .i64 t2, .int .i64 t3, .int .i64 t4, .int .i64 t5]).alloc (.cells #[.int .i64 0, .int .i64 0] 71))
  have HBK := Lib.hid (show Blk ((w.alloc (.cells #[.int .i64 t1, .int .i64 t2, .int .i64 t3, .int .i64 t4, .int .i64 t5] 45)).alloc (.cells #[.int .i64 0, .int .i64 0] 71)) (w.heap.size + 1) 71 #[.int .i64 0, .int .i64 0] from by
    have := Blk.new (w.alloc (.cells #[.int .i64 t1, .int .i64 t2, .int .i64 t3, .int .i64 t4, .int .i64 t5] 45)) 71 #[.int .i64 0, .int .i64 0]
    simpa using this)
  unfold lkey at hk
  obtain ⟨it, hit⟩ : ∃ it, itN its t1 = it := ⟨_, rfl⟩
  obtain ⟨r, hr⟩ : ∃ r, inI its.length t1 = r := ⟨_, rfl⟩
  dsimp only at hk
  rw [hit] at hk HIT
  rw [hr] at HIT
  clear h hit hr
  obtain ⟨i1, i2, i3, i4⟩ := it
  dsimp only [It.val] at hk HIT
  go_enter Try.func24, Try.ntmps24
  go_wp2_with fail
  refine (HIT.out _ HA2.out).mono ?_
  rintro e w1 ⟨rfl, hb⟩
  have hb' : Below (w.heap.size + 2) ((w.alloc (.cells #[.int .i64 t1, .int .i64 t2, .int .i64 t3, .int .i64 t4, .int .i64 t5] 45)).alloc (.cells #[.int .i64 0, .int .i64 0] 71)) w1 := by
    have := hb
    rwa [show ((w.alloc (.cells #[.int .i64 t1, .int .i64 t2, .int .i64 t3, .int .i64 t4, .int .i64 t5] 45)).alloc (.cells #[.int .i64 0, .int .i64 0] 71)).heap.size = w.heap.size + 2 by simp] at this
  have hbx := HBX.out.below hb HBX.out.lt
  have hbk := HBK.out.below hb HBK.out.lt
  have x0 : w1.cell? ⟨w.heap.size, 0, none⟩ = some (.int .i64 t1) := hbx.cell 0
  have k0 : w1.cell? ⟨w.heap.size + 1, 0, none⟩ = some (.int .i64 0) := hbk.cell 0
  have k1 : w1.cell? ⟨w.heap.size + 1, 1, none⟩ = some (.int .i64 0) := hbk.cell 1
  have k2 := hbk.frozen 0
  have k3 := hbk.frozen 1
  have HB3 := Lib.hid (fun (p q : Int) (ob : Obj) => (show Below w.heap.size w (((w1.setCell ⟨w.heap.size + 1, 0, none⟩ (.int .i64 p)).setCell ⟨w.heap.size + 1, 1, none⟩ (.int .i64 q)).alloc ob) from by
    have h1 := ((HA2.out.trans (hb'.mono (by omega))).setCell (p := ⟨w.heap.size + 1, 0, none⟩) (by simp) (.int .i64 p)).setCell (p := ⟨w.heap.size + 1, 1, none⟩) (by simp) (.int .i64 q)
    exact h1.alloc h1.size _))
  have HRB := Lib.hid (fun (p q : Int) (ob : Obj) => (show Blk (((w1.setCell ⟨w.heap.size + 1, 0, none⟩ (.int .i64 p)).setCell ⟨w.heap.size + 1, 1, none⟩ (.int .i64 q)).alloc ob) (w.heap.size + 1) 71 #[.int .i64 p, .int .i64 q] from by
    have := ((hbk.set_ 0 (.int .i64 p)).set_ 1 (.int .i64 q)).alloc ob
    simpa using this))
  have hlt : w.heap.size + 1 < w1.heap.size := hbk.lt
  have hlt2 : w.heap.size < w1.heap.size := by omega
  clear hb hb' hbx hbk
  by_cases c1 : i1 = 1
  · rw [if_pos c1] at hk
    subst c1
    subst hk
    go_wp2_with fail
    have r0 : World.cell? (((w1.setCell ⟨w.heap.size + 1, 0, none⟩ (.int .i64 1)).setCell ⟨w.heap.size + 1, 1, none⟩ (.int .i64 i2)).alloc (.cells #[.int .i64 1, .int .i64 i2, .int .i64 i3, .int .i64 i4] 50)) ⟨w.heap.size + 1, 0, none⟩ = some (.int .i64 1) := (HRB.out _ _ _).cell 0
    have r1 : World.cell? (((w1.setCell ⟨w.heap.size + 1, 0, none⟩ (.int .i64 1)).setCell ⟨w.heap.size + 1, 1, none⟩ (.int .i64 i2)).alloc (.cells #[.int .i64 1, .int .i64 i2, .int .i64 i3, .int .i64 i4] 50)) ⟨w.heap.size + 1, 1, none⟩ = some (.int .i64 i2) := (HRB.out _ _ _).cell 1
    refine bodyPost_ret (v := .agg #[.int .i64 1, .int .i64 i2]) ?_ rfl ⟨rfl, HB3.out 1 i2 _⟩
    simp [results, Try.results24, go_sem, r0, r1]
  · rw [if_neg c1] at hk
    have c1b : (i1 == 1) = false := by simpa using c1
    by_cases c2 : i1 = 2
    · rw [if_pos c2] at hk
      subst c2
      subst hk
      go_wp2_with fail
      have r0 : World.cell? (((w1.setCell ⟨w.heap.size + 1, 0, none⟩ (.int .i64 2)).setCell ⟨w.heap.size + 1, 1, none⟩ (.int .i64 t1)).alloc (.cells #[.int .i64 2, .int .i64 i2, .int .i64 i3, .int .i64 i4] 50)) ⟨w.heap.size + 1, 0, none⟩ = some (.int .i64 2) := (HRB.out _ _ _).cell 0
      have r1 : World.cell? (((w1.setCell ⟨w.heap.size + 1, 0, none⟩ (.int .i64 2)).setCell ⟨w.heap.size + 1, 1, none⟩ (.int .i64 t1)).alloc (.cells #[.int .i64 2, .int .i64 i2, .int .i64 i3, .int .i64 i4] 50)) ⟨w.heap.size + 1, 1, none⟩ = some (.int .i64 t1) := (HRB.out _ _ _).cell 1
      refine bodyPost_ret (v := .agg #[.int .i64 2, .int .i64 t1]) ?_ rfl ⟨rfl, HB3.out 2 t1 _⟩
      simp [results, Try.results24, go_sem, r0, r1]
    · rw [if_neg c2] at hk
      have c2b : (i1 == 2) = false := by simpa using c2
      subst hk
      go_wp2_with fail
      have r0 : World.cell? (((w1.setCell ⟨w.heap.size + 1, 0, none⟩ (.int .i64 0)).setCell ⟨w.heap.size + 1, 1, none⟩ (.int .i64 (at_ : Int))).alloc (.cells #[.int .i64 i1, .int .i64 i2, .int .i64 i3, .int .i64 i4] 50)) ⟨w.heap.size + 1, 0, none⟩ = some (.int .i64 0) := (HRB.out _ _ _).cell 0
      have r1 : World.cell? (((w1.setCell ⟨w.heap.size + 1, 0, none⟩ (.int .i64 0)).setCell ⟨w.heap.size + 1, 1, none⟩ (.int .i64 (at_ : Int))).alloc (.cells #[.int .i64 i1, .int .i64 i2, .int .i64 i3, .int .i64 i4] 50)) ⟨w.heap.size + 1, 1, none⟩ = some (.int .i64 (at_ : Int)) := (HRB.out _ _ _).cell 1
      refine bodyPost_ret (v := .agg #[.int .i64 0, .int .i64 (at_ : Int)]) ?_ rfl ⟨rfl, HB3.out 0 at_ _⟩
      simp [results, Try.results24, go_sem, r0, r1]
section
variable {b g c t : Nat} {xs : List DV} {w : World}
set_option maxHeartbeats 2000000 in
set_option maxRecDepth 100000 in
theorem join_no (hD : DusW b (.slice (some ⟨g, 0, none⟩) xs.length c) xs w) (ht : t < xs.length) (at_ : Nat) (y : LnD) (u z : Int) (h1 : I64 xs[t].d.alone) (h2 : I64 xs[t].d.units) (h3 : I64 y.alone) (h4 : I64 y.units) (hno : ¬ okD (joinD xs[t].d at_ y)) :
    Calls Try.prog 26 #[.pointer (some ⟨g, t * 6, none⟩), .int .i64 (at_ : Int), .agg #[.int .i64 u, .int .i64 y.units, .int .i64 z, .int .i64 y.first, .int .i64 y.last], .int .i64 y.alone] w fun e w' => e = .returned (.int .i64 3) ∧ Below w.heap.size w w' := by
  obtain ⟨g', c', hv, hc, _, _, cs, hcs⟩ := dus_entry hD.own ht
  injection hv with hv1 _ _
  injection hv1 with hv1
  injection hv1 with hv1
  subst hv1
  have e1 : w.cell? ⟨g, t * 6 + 1, none⟩ = some (.int .i64 xs[t].d.alone) := hc 1 _ rfl
  have e2 : w.cell? ⟨g, t * 6 + 2, none⟩ = some (.int .i64 xs[t].d.units) := hc 2 _ rfl
  have hgw := hcs.lt
  have HA1 := Lib.hid (alloc1 w (.cells #[.int .i64 u, .int .i64 y.units, .int .i64 z, .int .i64 y.first, .int .i64 y.last] 45))
  have HBX := Lib.hid (Blk.new w 45 #[.int .i64 u, .int .i64 y.units, .int .i64 z, .int .i64 y.first, .int .i64 y.last])
  unfold okD joinD at hno
  dsimp only at hno
  generalize xs[t] = dt at *
  obtain ⟨⟨dl, da, du, dm, df, dla⟩, dv⟩ := dt
  dsimp only at h1 h2 e1 e2 hno
  obtain ⟨yk, ya, yu, ym, yf, yl, ye⟩ := y
  dsimp only at h3 h4 hno HA1 HBX ⊢
  have HAD := Lib.hid (fun W => (add_is da ya W h1 h3 _ _ ⟨rfl, rfl⟩))
  have HAD2 := Lib.hid (fun W => (add_is du yu W h2 h4 _ _ ⟨rfl, rfl⟩).mono (fun e w' (h : _ ∧ _) => (show e = .returned (.tuple #[.int .i64 (fitN (du + yu)), .int .i64 (fitE (du + yu))]) ∧ w' = W from ⟨h.1, h.2.symm⟩)))
  have hcase : fitE (da + ya) = 3 ∨ (fitE (da + ya) = 0 ∧ fitE (du + yu) = 3) := by
    unfold fitE
    by_cases q1 : I64 (da + ya)
    · rw [if_pos q1]
      exact .inr ⟨rfl, by rw [if_neg (fun q2 => hno ⟨q1, q2⟩)]⟩
    · rw [if_neg q1]; exact .inl rfl
  clear hno h1 h2 h3 h4
  generalize fitN (da + ya) = n1 at *
  generalize fitE (da + ya) = f1 at *
  generalize fitN (du + yu) = n2 at *
  generalize fitE (du + yu) = f2 at *
  clear hc hcs hD ht
  go_enter Try.func26, Try.ntmps26
  go_wp2_with fail
  refine (HAD.out _).mono ?_
  rintro e w1 ⟨rfl, rfl⟩
  obtain ⟨wa, hwa⟩ : ∃ wa, w.alloc (.cells #[.int .i64 u, .int .i64 yu, .int .i64 z, .int .i64 yf, .int .i64 yl] 45) = wa := ⟨_, rfl⟩
  have b2 : wa.cell? ⟨w.heap.size, 1, none⟩ = some (.int .i64 yu) := by rw [← hwa]; exact HBX.out.cell 1
  have e3 : wa.cell? ⟨g, t * 6 + 2, none⟩ = some (.int .i64 du) := by rw [← hwa]; exact cell_below' HA1.out e2
  rw [hwa] at HA1 ⊢
  clear hwa HBX e1 e2
  go_wp2_with fail
  go_quiet ((go_at_call 33; exact Calls.quiet_of_same (HAD2.out _)))
  rcases hcase with rfl | ⟨rfl, rfl⟩
  · go_wp2_with fail
    go_ret
    exact ⟨rfl, Later.drewN HA1.out nq⟩
  · go_wp2_with fail
    go_ret
    exact ⟨rfl, Later.drewN HA1.out nq⟩
theorem below_put5 {B : Nat} {w0 w1 : World} (h : Below B w0 w1) (hg : B ≤ g) (o : Nat) (a0 a1 a2 a4 a5 : Value) : Below B w0 (put5 w1 g o a0 a1 a2 a4 a5) :=
  ((((h.setCell hg _).setCell hg _).setCell hg _).setCell hg _).setCell hg _
theorem ints_snocD (l : List Int) (x : Int) : ints (l ++ [x]) = ints l ++ [.int .i64 x] := by simp [ints]
/-- What join leaves. -/
def JRet (b g o : Nat) (v : Value) (L : List Int) (n : Nat) (at_ : Int) (n1 n2 f l : Int) (w : World) (e : Ending) (w' : World) : Prop :=
  e = .returned (.int .i64 0) ∧ ∃ (wq w6 : World) (g5 cap : Nat), Below w.heap.size w wq ∧ wq.grownBy w6 v.ownBlock ∧ w6.ownsRow b 3 1 (.slice (some ⟨g5, 0, none⟩) (n + 1) cap) (n + 1) (ints (L ++ [at_])) ∧ (v.ownBlock = some g5 ∨ wq.heap.size ≤ g5) ∧ Below (put5 w6 g o (.slice (some ⟨g5, 0, none⟩) (n + 1) cap) (.int .i64 n1) (.int .i64 n2) (.int .i64 f) (.int .i64 l)).heap.size (put5 w6 g o (.slice (some ⟨g5, 0, none⟩) (n + 1) cap) (.int .i64 n1) (.int .i64 n2) (.int .i64 f) (.int .i64 l)) w'
set_option maxHeartbeats 4000000 in
set_option maxRecDepth 100000 in
theorem join_raw {o cp : Nat} {P : Option Addr} {L : List Int} {cs : Array Value} (hblk : Blk w g 43 cs) (at_ u z da ya du yu df dl yf yl n1 n2 : Int)
    (c0 : w.cell? ⟨g, o, none⟩ = some (.slice P L.length cp)) (c1 : w.cell? ⟨g, o + 1, none⟩ = some (.int .i64 da)) (c2 : w.cell? ⟨g, o + 2, none⟩ = some (.int .i64 du)) (c4 : w.cell? ⟨g, o + 4, none⟩ = some (.int .i64 df)) (c5 : w.cell? ⟨g, o + 5, none⟩ = some (.int .i64 dl))
    (hL : w.ownsRow b 3 1 (.slice P L.length cp) L.length (ints L)) (hlen : L.length ≤ 1000) (hb : b ≤ w.heap.size) (h1 : I64 da) (h2 : I64 ya) (h3 : I64 du) (h4 : I64 yu) (hn1 : da + ya = n1) (hn2 : du + yu = n2) (k1 : I64 n1) (k2 : I64 n2) (m1 m2 : Int) (hm1 : min df yf = m1) (hm2 : max dl yl = m2) :
    Calls Try.prog 26 #[.pointer (some ⟨g, o, none⟩), .int .i64 at_, .agg #[.int .i64 u, .int .i64 yu, .int .i64 z, .int .i64 yf, .int .i64 yl], .int .i64 ya] w (JRet b g o (.slice P L.length cp) L L.length at_ n1 n2 m1 m2 w) := by
  have HA1 := Lib.hid (alloc1 w (.cells #[.int .i64 u, .int .i64 yu, .int .i64 z, .int .i64 yf, .int .i64 yl] 45))
  have HBX := Lib.hid (Blk.new w 45 #[.int .i64 u, .int .i64 yu, .int .i64 z, .int .i64 yf, .int .i64 yl])
  have HBL := Lib.hid hblk
  have HL := Lib.hid hL
  have hgw := hblk.lt
  have HAD := Lib.hid (fun W => (add_is da ya W h1 h2 n1 0 (by rw [hn1]; unfold fitN fitE; rw [if_pos k1, if_pos k1]; exact ⟨rfl, rfl⟩)))
  have HAD2 := Lib.hid (fun W => (add_is du yu W h3 h4 n2 0 (by rw [hn2]; unfold fitN fitE; rw [if_pos k2, if_pos k2]; exact ⟨rfl, rfl⟩)).mono (fun e w' (h : _ ∧ _) => (show e = .returned (.tuple #[.int .i64 n2, .int .i64 0]) ∧ w' = W from ⟨h.1, h.2.symm⟩)))
  obtain ⟨n, hn⟩ : ∃ n, L.length = n := ⟨_, rfl⟩
  have HM1 := Lib.hid hm1
  have HM2 := Lib.hid hm2
  rw [hn] at c0 hlen HL ⊢
  have hb1 : (n + 1) * 8 ≤ 140737488355328 := by omega
  have hb2 : n + 1 ≤ maxLen := by unfold maxLen; omega
  clear hblk hL hn1 hn2 k1 k2 h1 h2 h3 h4 hn hm1 hm2
  have hne : ¬ g = w.heap.size := by omega
  go_enter Try.func26, Try.ntmps26
  go_wp2_with fail
  refine (HAD.out _).mono ?_
  rintro e w1 ⟨rfl, rfl⟩
  obtain ⟨wa, hwa⟩ : ∃ wa, w.alloc (.cells #[.int .i64 u, .int .i64 yu, .int .i64 z, .int .i64 yf, .int .i64 yl] 45) = wa := ⟨_, rfl⟩
  have b2 : wa.cell? ⟨w.heap.size, 1, none⟩ = some (.int .i64 yu) := by rw [← hwa]; exact HBX.out.cell 1
  have e3 : wa.cell? ⟨g, o + 2, none⟩ = some (.int .i64 du) := by rw [← hwa]; exact cell_below' HA1.out c2
  rw [hwa] at HA1 HBX ⊢
  clear hwa
  go_wp2_with fail
  go_quiet ((go_at_call 33; exact Calls.quiet_of_same (HAD2.out _)))
  have HBW := Lib.hid (Exact.Later.drewN HA1.out nq)
  have hbq := HBX.out.drewN nq
  obtain ⟨wd, hwd⟩ : ∃ wd, wa.drewN nq = wd := ⟨_, rfl⟩
  rw [hwd] at HBW hbq ⊢
  obtain ⟨Z, hZ⟩ : ∃ Z, w.heap.size = Z := ⟨_, rfl⟩
  have HZ := Lib.hid hZ
  have hbz := hb
  rw [hZ] at hbq hne hb ⊢
  have d0 := cell_below' HBW.out c0
  have hZd : Z ≤ wd.heap.size := by rw [← hZ]; exact HBW.out.size
  have HLd := Lib.hid (own_blw HL.out HBW.out)
  have HBLd := Lib.hid (HBL.out.below HBW.out HBL.out.lt)
  have hgd := HBLd.out.lt
  have HQd := Lib.hid hbq
  have hQd := hbq.lt
  have d4 := cell_below' HBW.out c4
  have d5 := cell_below' HBW.out c5
  have d1 := cell_below' HBW.out c1
  have d2 := cell_below' HBW.out c2
  have HNW := Lib.hid (Blk.new wd 3 #[.int .i64 at_])
  clear hwd hbq b2 e3 c0 c1 c2 c4 c5 HBX HA1 hZ
  go_wp2_with (at_builtin; refine wpList_app Exact.E_int rfl (.tmp 42) (.tmp 44) rfl rfl (HLd.out.alloc _) ⟨wd.heap.size, 0, none⟩ 1 1 [.int .i64 at_] rfl rfl (World.news_of_block HNW.out) (by simp [Value.oneCell']) hb1 hb2 (by simp; omega) (by decide) ?_; intro g5 cap5 w6 hown6 hg6 hat6; have HO6 := Lib.hid hown6; have HG6 := Lib.hid hg6; have HAT := Lib.hid hat6; have hbl6 := (HBLd.out.alloc (.cells #[.int .i64 at_] 3)).grown hg6 (own_box (HLd.out.alloc (.cells #[.int .i64 at_] 3)) (HBLd.out.alloc (.cells #[.int .i64 at_] 3)) (by decide)); have HBL6 := Lib.hid hbl6; have hqd6 := (HQd.out.alloc (.cells #[.int .i64 at_] 3)).grown hg6 (own_box (HLd.out.alloc (.cells #[.int .i64 at_] 3)) (HQd.out.alloc (.cells #[.int .i64 at_] 3)) (by decide)); have HQ6 := Lib.hid hqd6; have f1 := (HBL6.out.cell (o + 1)).trans ((HBLd.out.cell (o + 1)).symm.trans d1); have f2 := (HBL6.out.cell (o + 2)).trans ((HBLd.out.cell (o + 2)).symm.trans d2); have f0 := (HBL6.out.cell o).trans ((HBLd.out.cell o).symm.trans d0); have f4 := (HBL6.out.cell (o + 4)).trans ((HBLd.out.cell (o + 4)).symm.trans d4); have f5 := (HBL6.out.cell (o + 5)).trans ((HBLd.out.cell (o + 5)).symm.trans d5); have y0 := HBL6.out.frozen o; have y1 := HBL6.out.frozen (o + 1); have y2 := HBL6.out.frozen (o + 2); have y4 := HBL6.out.frozen (o + 4); have y5 := HBL6.out.frozen (o + 5); have z3 : w6.cell? ⟨Z, 3, none⟩ = some (.int .i64 yf) := HQ6.out.cell 3; have z4 : w6.cell? ⟨Z, 4, none⟩ = some (.int .i64 yl) := HQ6.out.cell 4; clear hown6 hg6 hat6 hbl6 hqd6)
  rcases Int.lt_or_le yf df with q1 | q1
  · obtain rfl : m1 = yf := by have := HM1.out; omega
    rcases Int.lt_or_le dl yl with q2 | q2
    · obtain rfl : m2 = yl := by have := HM2.out; omega
      go_region
      all_goals
        go_wp2_with fail
        go_ret
        have ho := HO6.out
        rw [← ints_snocD] at ho
        refine ⟨rfl, wd.alloc (.cells #[.int .i64 at_] 3), w6, g5, cap5, ?_, HG6.out, ho, ?_, ?_⟩
        · exact HBW.out.alloc (by rw [HZ.out]; exact hZd) _
        · rcases HAT.out with q | q
          · exact .inl q
          · exact .inr (by rw [q]; exact Nat.le_refl _)
        · first | exact Below.refl _ _ | exact Below.drew (Below.refl _ _)
    · obtain rfl : m2 = dl := by have := HM2.out; omega
      go_region
      all_goals
        go_wp2_with fail
        go_ret
        have ho := HO6.out
        rw [← ints_snocD] at ho
        refine ⟨rfl, wd.alloc (.cells #[.int .i64 at_] 3), w6, g5, cap5, ?_, HG6.out, ho, ?_, ?_⟩
        · exact HBW.out.alloc (by rw [HZ.out]; exact hZd) _
        · rcases HAT.out with q | q
          · exact .inl q
          · exact .inr (by rw [q]; exact Nat.le_refl _)
        · first | exact Below.refl _ _ | exact Below.drew (Below.refl _ _)
  · obtain rfl : m1 = df := by have := HM1.out; omega
    rcases Int.lt_or_le dl yl with q2 | q2
    · obtain rfl : m2 = yl := by have := HM2.out; omega
      go_region
      all_goals
        go_wp2_with fail
        go_ret
        have ho := HO6.out
        rw [← ints_snocD] at ho
        refine ⟨rfl, wd.alloc (.cells #[.int .i64 at_] 3), w6, g5, cap5, ?_, HG6.out, ho, ?_, ?_⟩
        · exact HBW.out.alloc (by rw [HZ.out]; exact hZd) _
        · rcases HAT.out with q | q
          · exact .inl q
          · exact .inr (by rw [q]; exact Nat.le_refl _)
        · first | exact Below.refl _ _ | exact Below.drew (Below.refl _ _)
    · obtain rfl : m2 = dl := by have := HM2.out; omega
      go_region
      all_goals
        go_wp2_with fail
        go_ret
        have ho := HO6.out
        rw [← ints_snocD] at ho
        refine ⟨rfl, wd.alloc (.cells #[.int .i64 at_] 3), w6, g5, cap5, ?_, HG6.out, ho, ?_, ?_⟩
        · exact HBW.out.alloc (by rw [HZ.out]; exact hZd) _
        · rcases HAT.out with q | q
          · exact .inl q
          · exact .inr (by rw [q]; exact Nat.le_refl _)
        · first | exact Below.refl _ _ | exact Below.drew (Below.refl _ _)
end
end Go.Proofs.Ytbdhbongaikphaa.BK
