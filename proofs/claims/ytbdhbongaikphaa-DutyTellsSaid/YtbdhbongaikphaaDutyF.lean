/- The reference's Same (of equal ones); awake. -/
import Derived.Test.YtbdhbongaikphaaDutyE
namespace Go.Proofs.Ytbdhbongaikphaa.BK
open Go.RowKit Go.Proofs.Ytbdhbongaikphaa.Cents Go.Proofs.Ytbdhbongaikphaa.DU Go.Proofs.Ytbdhbongaikphaa.Exact
set_option linter.unusedVariables false
set_option linter.unusedSimpArgs false

/-- A row of obligations that is only read. -/
structure DusR (A : Option Addr) (xs : List DV) (w : World) : Prop where
  row : Row w 0 A (xs.flatMap dvc)
  lns : ∀ x ∈ xs, ∃ P c, x.v = .slice P x.d.ls.length c ∧ Row w 0 P (ints (nats x.d.ls))
section
variable {A B : Option Addr} {xs ys : List DV} {w w' : World} {b c n t : Nat}
theorem DusR.below (h : DusR A xs w) (hb : Below w.heap.size w w') : DusR A xs w' := ⟨h.row.below hb, fun x hx => by obtain ⟨P, c, h1, h2⟩ := h.lns x hx; exact ⟨P, c, h1, h2.below hb⟩⟩
theorem DusW.read (h : DusW b (.slice A n c) xs w) (hn : xs.length = n) : DusR A xs w := by
  subst hn
  exact ⟨(Row.of_own h.own (by decide)).weak (Nat.zero_le _), fun x hx => by
    have hl := h.lns x hx
    obtain ⟨P, cp, hv, _⟩ := own_slice hl
    rw [hv] at hl
    exact ⟨P, cp, hv, (Row.of_own hl (by decide)).weak (Nat.zero_le _)⟩⟩
theorem DusR.at_ (h : DusR A xs w) (ht : t < xs.length) : ∃ ad P cp, A = some ad ∧ w.cell? (ad.add (t * 6)) = some (.slice P xs[t].d.ls.length cp) ∧ w.cell? ⟨(ad.add (t * 6)).block, (ad.add (t * 6)).off + 1, none⟩ = some (.int .i64 xs[t].d.alone) ∧ w.cell? ⟨(ad.add (t * 6)).block, (ad.add (t * 6)).off + 2, none⟩ = some (.int .i64 xs[t].d.units) ∧ w.cell? ⟨(ad.add (t * 6)).block, (ad.add (t * 6)).off + 3, none⟩ = some (.int .i64 xs[t].d.method) ∧ w.cell? ⟨(ad.add (t * 6)).block, (ad.add (t * 6)).off + 4, none⟩ = some (.int .i64 xs[t].d.first) ∧ w.cell? ⟨(ad.add (t * 6)).block, (ad.add (t * 6)).off + 5, none⟩ = some (.int .i64 xs[t].d.last) ∧ Row w 0 P (ints (nats xs[t].d.ls)) := by
  obtain ⟨ad, e, _, h0, hi⟩ := Row.elem dvc_len (by omega) h.row ht
  obtain ⟨P, cp, hv, hr⟩ := h.lns xs[t] (List.getElem_mem ht)
  have h0 := h0 xs[t].v rfl
  rw [hv] at h0
  exact ⟨ad, P, cp, e, h0, hi 1 _ (by omega) rfl, hi 2 _ (by omega) rfl, hi 3 _ (by omega) rfl, hi 4 _ (by omega) rfl, hi 5 _ (by omega) rfl, hr⟩
set_option maxHeartbeats 4000000 in
set_option maxRecDepth 100000 in
theorem same_same (ca cb : Nat) (hA : DusR A xs w) (hB : DusR B ys w) (he : xs.map (·.d) = ys.map (·.d)) (hn : xs.length = n) (hn2 : n ≤ 1000) (hl : ∀ x ∈ xs, x.d.ls.length ≤ 1000) :
    Calls Try.prog 13 #[.slice A n ca, .slice B n cb] w fun e w' => e = .returned (.bool true) ∧ Below w.heap.size w w' := by
  have hm : ys.length = n := by rw [← hn]; have := congrArg List.length he; simpa using this.symm
  have HA := Lib.hid hA
  have HB := Lib.hid hB
  have HN := Lib.hid hn
  have HM := Lib.hid hm
  have HL := Lib.hid hl
  have HD := Lib.hid (fun (k : Nat) (hk : k < xs.length) (hk2 : k < ys.length) => (show ys[k].d = xs[k].d from by
    have h1 : (xs.map (·.d))[k]'(by simpa using hk) = (ys.map (·.d))[k]'(by simpa using hk2) := by simp [he]
    simpa using h1.symm))
  clear hA hB he hn hm hl
  go_enter Try.func13, Try.ntmps13
  go_wp2_with fail
  go_loopw [5] (fun v wr => ∃ k : Nat, v = .int .i64 (k : Int) ∧ k ≤ n ∧ Below w.heap.size w wr) (fun v _ => n - (intOf v).toNat)
  case atStart => exact ⟨0, rfl, by omega, Below.refl _ _⟩
  case round =>
    obtain ⟨k, rfl, hk, hb⟩ := hrel
    have HBE := Lib.hid hb
    have k0 : (0 : Int) ≤ (k : Int) := Int.natCast_nonneg _
    by_cases hlt : k < n
    · have hkx : k < xs.length := by rw [HN.out]; exact hlt
      have hky : k < ys.length := by rw [HM.out]; exact hlt
      obtain ⟨ad, P, cp, rfl, x0, x1, x2, x3, x4, x5, xr⟩ := (HA.out.below hb).at_ hkx
      obtain ⟨bd, Q, cq, rfl, y0, y1, y2, y3, y4, y5, yr⟩ := (HB.out.below hb).at_ hky
      rw [HD.out k hkx hky] at y0 y1 y2 y3 y4 y5 yr
      have hlen := HL.out xs[k] (List.getElem_mem hkx)
      generalize xs[k].d = d at *
      obtain ⟨dl, da, du, dm, df, dd⟩ := d
      dsimp only at x0 x1 x2 x3 x4 x5 xr y0 y1 y2 y3 y4 y5 yr hlen
      have HO := Lib.hid (fun (W : World) (hb2 : Below wr.heap.size wr W) => one_same P Q dl.length cp cq (nats dl) da du dm df dd W (xr.below hb2) (yr.below hb2) (nats_len dl) hlen)
      obtain ⟨m, hm⟩ : ∃ m, dl.length = m := ⟨_, rfl⟩
      rw [hm] at HO x0 y0
      have k1 : (k : Int) < (n : Int) := by omega
      clear hb xr yr hlen hm
      go_wp2_with fail
      have HLT := Lib.hid ((Exact.Later.refl wr).drew)
      go_region_with ((go_at_call 16; refine (HO.out _ HLT.out).mono ?_; rintro e w3 ⟨rfl, hb3⟩; have HL3 := Lib.hid (HBE.out.trans ((HLT.out.trans hb3).mono HBE.out.size)); clear hb3))
      all_goals
        go_wp2_with fail
        go_roundw
        case rel => exact ⟨k + 1, by go_num, by omega, HL3.out⟩
        case measure => simp only [intOf]; omega
    · obtain rfl : k = n := by omega
      go_wp2_with fail
      go_ret
      exact ⟨rfl, HBE.out⟩
end
def itsD : List It := [⟨0, 0, 0, 10⟩, ⟨1, 3, 1, 5⟩]
def lsD : List Ln := [⟨0, 1, 9, 5, 6⟩, ⟨1, 2, 0, 4, 4⟩, ⟨0, 1, 0, 1, 1⟩, ⟨1, 1, 0, 9, 9⟩]
def dsD : List Du := [⟨[0], 10, 1, 0, 5, 6⟩, ⟨[1, 3], 15, 3, 1, 4, 9⟩, ⟨[2], 10, 1, 0, 1, 1⟩]
theorem newD : newE itsD = 0 := by decide
theorem okBD : BkOk itsD (rows0 itsD) := new_BkOk newD (by intro x hx; simp [itsD] at hx; rcases hx with rfl | rfl <;> refine ⟨?_, ?_, ?_, ?_⟩ <;> exact ⟨by decide, by decide⟩)
theorem chkD : checkE itsD.length lsD = 0 := by decide
theorem dusD : dus (fL itsD (rows0 itsD) 0 lsD) lsD.length = dsD := by rfl
theorem okAD : okAll (fL itsD (rows0 itsD) 0 lsD) lsD.length := by
  refine ⟨by decide +kernel, ?_⟩
  rw [dusD]
  intro d hd
  simp [dsD] at hd
  rcases hd with rfl | rfl | rfl <;> exact ⟨⟨by decide, by decide⟩, ⟨by decide, by decide⟩⟩
theorem dfind_any (S : Nat → Prop) (its : List It) (A : Option Addr) (ls : List Ln) (c b : Nat) (day : Int) (w : World) (hE : newE its = 0) (hI : ∀ x ∈ its, ItI x) (h : BkW S b its (rows0 its) w) (hr : Row w 0 A (lcells ls)) (hl : ls.length ≤ 1000000) (hu : ∀ i, i < ls.length → I64 (lnAt ls i).units) :
    Calls Try.prog 11 #[.pointer (some ⟨b, 0, none⟩), .slice A ls.length c, .int .i64 day] w (FRet its (rows0 its) day ls w) := by
  by_cases hno : day < 0 ∨ checkE its.length ls ≠ 0
  · exact find_no S its (rows0 its) A ls c b day h hr hl hno
  · have hd : ¬ day < 0 := fun c => hno (.inl c)
    have hc : checkE its.length ls = 0 := Classical.byContradiction fun c => hno (.inr c)
    have hm := (check_all hc).2.2
    exact find_go S its (rows0 its) A ls c b day h (new_BkOk hE hI) hr hd hc hu (pos_fL hE hc hd) (fun i hi => (alone0 hE (hm i hi) hd).2.1) (fun i hi => (alone0 hE (hm i hi) hd).2.2)
theorem findD : findE itsD (rows0 itsD) 0 lsD = 0 ∧ findL itsD (rows0 itsD) 0 lsD = dsD := by
  have := find_yes (R := rows0 itsD) (by decide) chkD okAD
  rw [dusD] at this
  exact this
def vsD (Z : Nat) : List DV := [⟨⟨[0], 10, 1, 0, 5, 6⟩, .slice (some ⟨Z, 0, none⟩) 1 1⟩, ⟨⟨[1, 3], 15, 3, 1, 4, 9⟩, .slice (some ⟨Z + 1, 0, none⟩) 2 2⟩, ⟨⟨[2], 10, 1, 0, 1, 1⟩, .slice (some ⟨Z + 2, 0, none⟩) 1 1⟩]
theorem below4 (w : World) (a b c d : Obj) : Below w.heap.size w ((((w.alloc a).alloc b).alloc c).alloc d) :=
  (((alloc1 w a).alloc (alloc1 w a).size b).alloc ((alloc1 w a).alloc (alloc1 w a).size b).size c).alloc (((alloc1 w a).alloc (alloc1 w a).size b).alloc ((alloc1 w a).alloc (alloc1 w a).size b).size c).size d
theorem litD (w : World) : DusR (some ⟨w.heap.size + 3, 0, none⟩) (vsD w.heap.size) ((((w.alloc (.cells #[.int .i64 0] 3)).alloc (.cells #[.int .i64 1, .int .i64 3] 3)).alloc (.cells #[.int .i64 2] 3)).alloc (.cells #[.slice (some ⟨w.heap.size, 0, none⟩) 1 1, .int .i64 10, .int .i64 1, .int .i64 0, .int .i64 5, .int .i64 6, .slice (some ⟨w.heap.size + 1, 0, none⟩) 2 2, .int .i64 15, .int .i64 3, .int .i64 1, .int .i64 4, .int .i64 9, .slice (some ⟨w.heap.size + 2, 0, none⟩) 1 1, .int .i64 10, .int .i64 1, .int .i64 0, .int .i64 1, .int .i64 1] 43)) := by
  have b0 := Blk.new w 3 #[.int .i64 0]
  have b1 : Blk ((w.alloc (.cells #[.int .i64 0] 3)).alloc (.cells #[.int .i64 1, .int .i64 3] 3)) (w.heap.size + 1) 3 #[.int .i64 1, .int .i64 3] := by
    have := Blk.new (w.alloc (.cells #[.int .i64 0] 3)) 3 #[.int .i64 1, .int .i64 3]
    simpa using this
  have b2 : Blk (((w.alloc (.cells #[.int .i64 0] 3)).alloc (.cells #[.int .i64 1, .int .i64 3] 3)).alloc (.cells #[.int .i64 2] 3)) (w.heap.size + 2) 3 #[.int .i64 2] := by
    have := Blk.new ((w.alloc (.cells #[.int .i64 0] 3)).alloc (.cells #[.int .i64 1, .int .i64 3] 3)) 3 #[.int .i64 2]
    simpa using this
  refine ⟨?_, fun x hx => ?_⟩
  · refine Row.of_blk (g := w.heap.size + 3) (t := 43) (cs := #[.slice (some ⟨w.heap.size, 0, none⟩) 1 1, .int .i64 10, .int .i64 1, .int .i64 0, .int .i64 5, .int .i64 6, .slice (some ⟨w.heap.size + 1, 0, none⟩) 2 2, .int .i64 15, .int .i64 3, .int .i64 1, .int .i64 4, .int .i64 9, .slice (some ⟨w.heap.size + 2, 0, none⟩) 1 1, .int .i64 10, .int .i64 1, .int .i64 0, .int .i64 1, .int .i64 1]) ?_ (Nat.zero_le _) rfl
    have := Blk.new (((w.alloc (.cells #[.int .i64 0] 3)).alloc (.cells #[.int .i64 1, .int .i64 3] 3)).alloc (.cells #[.int .i64 2] 3)) 43 #[.slice (some ⟨w.heap.size, 0, none⟩) 1 1, .int .i64 10, .int .i64 1, .int .i64 0, .int .i64 5, .int .i64 6, .slice (some ⟨w.heap.size + 1, 0, none⟩) 2 2, .int .i64 15, .int .i64 3, .int .i64 1, .int .i64 4, .int .i64 9, .slice (some ⟨w.heap.size + 2, 0, none⟩) 1 1, .int .i64 10, .int .i64 1, .int .i64 0, .int .i64 1, .int .i64 1]
    simpa using this
  · simp [vsD] at hx
    rcases hx with rfl | rfl | rfl
    · exact ⟨_, _, rfl, Row.of_blk (((b0.alloc _).alloc _).alloc _) (Nat.zero_le _) rfl⟩
    · exact ⟨_, _, rfl, Row.of_blk ((b1.alloc _).alloc _) (Nat.zero_le _) rfl⟩
    · exact ⟨_, _, rfl, Row.of_blk (b2.alloc _) (Nat.zero_le _) rfl⟩
set_option maxHeartbeats 4000000 in
set_option maxRecDepth 100000 in
theorem awake11 (w : World) : Calls Try.prog 6 #[] w fun e w' => e = .returned (.bool true) ∧ Below w.heap.size w w' := by
  have HA1 := Lib.hid (alloc1 w (.cells #[.int .i64 0, .int .i64 0, .int .i64 0, .int .i64 10, .int .i64 1, .int .i64 3, .int .i64 1, .int .i64 5] 50))
  have HR1 := Lib.hid (show Row (w.alloc (.cells #[.int .i64 0, .int .i64 0, .int .i64 0, .int .i64 10, .int .i64 1, .int .i64 3, .int .i64 1, .int .i64 5] 50)) 0 (some ⟨w.heap.size, 0, none⟩) (icells itsD) from Row.of_blk (Blk.new w _ _) (Nat.zero_le _) rfl)
  go_enter Try.func6, Try.ntmps6
  go_wp2_with fail
  refine (new_ok _ itsD 2 _ HR1.out newD).mono ?_
  rintro e w1 ⟨S, b, rfl, hbk, hb, _⟩
  have HB1 := Lib.hid (HA1.out.trans (hb.mono HA1.out.size))
  have HBK := Lib.hid (hbk.later (alloc1 w1 (.cells #[.int .i64 0, .int .i64 1, .int .i64 9, .int .i64 5, .int .i64 6, .int .i64 1, .int .i64 2, .int .i64 0, .int .i64 4, .int .i64 4, .int .i64 0, .int .i64 1, .int .i64 0, .int .i64 1, .int .i64 1, .int .i64 1, .int .i64 1, .int .i64 0, .int .i64 9, .int .i64 9] 45)))
  have HR2 := Lib.hid (show Row (w1.alloc (.cells #[.int .i64 0, .int .i64 1, .int .i64 9, .int .i64 5, .int .i64 6, .int .i64 1, .int .i64 2, .int .i64 0, .int .i64 4, .int .i64 4, .int .i64 0, .int .i64 1, .int .i64 0, .int .i64 1, .int .i64 1, .int .i64 1, .int .i64 1, .int .i64 0, .int .i64 9, .int .i64 9] 45)) 0 (some ⟨w1.heap.size, 0, none⟩) (lcells lsD) from Row.of_blk (Blk.new w1 _ _) (Nat.zero_le _) rfl)
  have HB2 := Lib.hid (HB1.out.trans ((alloc1 w1 (.cells #[.int .i64 0, .int .i64 1, .int .i64 9, .int .i64 5, .int .i64 6, .int .i64 1, .int .i64 2, .int .i64 0, .int .i64 4, .int .i64 4, .int .i64 0, .int .i64 1, .int .i64 0, .int .i64 1, .int .i64 1, .int .i64 1, .int .i64 1, .int .i64 0, .int .i64 9, .int .i64 9] 45)).mono HB1.out.size))
  clear hbk hb
  go_wp2_with fail
  refine (dfind_any S itsD _ lsD 4 b 0 _ newD (by intro x hx; simp [itsD] at hx; rcases hx with rfl | rfl <;> refine ⟨?_, ?_, ?_, ?_⟩ <;> exact ⟨by decide, by decide⟩) HBK.out HR2.out (by decide) (by decide)).mono ?_
  rintro e w2 ⟨v, xs, rfl, hd, hx, hb⟩
  rw [findD.1]
  rw [findD.2] at hx
  have hxl : xs.length = 3 := by have := congrArg List.length hx; simpa [dsD] using this
  obtain ⟨AD, cD, rfl, _⟩ := hd.sl
  rw [hxl] at hd ⊢
  have HDR := Lib.hid (hd.read hxl)
  have HX := Lib.hid hx
  have HXL := Lib.hid hxl
  have HB3 := Lib.hid (HB2.out.trans (hb.mono HB2.out.size))
  have HR3 := Lib.hid (HR2.out.below hb)
  clear hd hx hxl hb
  go_wp2_with fail
  refine (find_nil _ 4 4 0 w2).mono ?_
  rintro e w3 ⟨rfl, rfl⟩
  go_wp2_with fail
  refine (charge_any _ lsD 4 w2 HR3.out (by decide) (by decide)).mono ?_
  rintro e w3 ⟨rfl, hb3⟩
  have HB4 := Lib.hid (HB3.out.trans (hb3.mono HB3.out.size))
  have HD4 := Lib.hid (HDR.out.below hb3)
  have HLT := Lib.hid (litD w3)
  clear hb3
  rw [show sumT (chL lsD lsD.length).sum = .tuple #[.int .i64 9, .int .i64 0] by rfl]
  have hls : ∀ x ∈ xs, x.d.ls.length ≤ 1000 := fun x hx => by
    have : x.d ∈ dsD := by rw [← HX.out]; exact List.mem_map_of_mem hx
    simp [dsD] at this
    rcases this with e | e | e <;> rw [e] <;> decide
  have HLS := Lib.hid hls
  clear hls
  go_wp2_with fail
  refine (same_same cD 3 (HD4.out.below (below4 w3 _ _ _ _)) HLT.out (by rw [HX.out]; rfl) HXL.out (by decide) HLS.out).mono ?_
  rintro e w5 ⟨rfl, hb5⟩
  have HB6 := Lib.hid (HB4.out.trans (((below4 w3 _ _ _ _).trans (hb5.mono (below4 w3 _ _ _ _).size)).mono HB4.out.size))
  clear hb5
  go_wp2_with fail
  go_ret
  exact ⟨rfl, HB6.out⟩
end Go.Proofs.Ytbdhbongaikphaa.BK
