/- The walk of duty's Find. -/
import Derived.Test.YtbdhbongaikphaaDutyC
namespace Go.Proofs.Ytbdhbongaikphaa.BK
open Go.RowKit Go.Proofs.Ytbdhbongaikphaa.Cents Go.Proofs.Ytbdhbongaikphaa.DU Go.Proofs.Ytbdhbongaikphaa.Exact
set_option linter.unusedVariables false
set_option linter.unusedSimpArgs false

def kcell (p : Int × Int) : List Value := [.int .i64 p.1, .int .i64 p.2]
theorem kcell_len (p : Int × Int) : (kcell p).length = 2 := rfl
theorem info_key : (Try.prog.info? 71).map (fun i => (i.zero, i.size, i.bytes)) = some (some (.agg #[.int .i64 0, .int .i64 0]), 2, 16) := by kernel_rfl
theorem E_key : ElemT Try.prog 69 71 2 16 := .mk' Try.underlying69 info_key rfl (by decide)
theorem info_duty : (Try.prog.info? 43).map (fun i => (i.zero, i.size, i.bytes)) = some (some (.agg #[.slice none 0 0, .int .i64 0, .int .i64 0, .int .i64 0, .int .i64 0, .int .i64 0]), 6, 64) := by kernel_rfl
theorem E_duty : ElemT Try.prog 34 43 6 64 := .mk' Try.underlying34 info_duty rfl (by decide)
section
variable {b g c n t : Nat} {xs : List DV} {w : World}
/-- join at one of a row of obligations. -/
def JAt (b g c n t : Nat) (xs : List DV) (y : Du) (w : World) (e : Ending) (w' : World) : Prop :=
  e = .returned (.int .i64 0) ∧ (∃ v', DusW b (.slice (some ⟨g, 0, none⟩) n c) (xs.set t ⟨y, v'⟩) w') ∧ Below b w w' ∧ ∀ q cs, Blk w q 71 cs → Blk w' q 71 cs
theorem join_at (hD : DusW b (.slice (some ⟨g, 0, none⟩) n c) xs w) (hn : xs.length = n) (ht : t < xs.length) (at_ : Nat) (y : LnD) (u z : Int) (h1 : I64 xs[t].d.alone) (h2 : I64 xs[t].d.units) (h3 : I64 y.alone) (h4 : I64 y.units) (hlen : xs[t].d.ls.length ≤ 1000) (hbw : b ≤ w.heap.size) (hok : okD (joinD xs[t].d at_ y)) :
    Calls Try.prog 26 #[.pointer (some ⟨g, t * 6, none⟩), .int .i64 (at_ : Int), .agg #[.int .i64 u, .int .i64 y.units, .int .i64 z, .int .i64 y.first, .int .i64 y.last], .int .i64 y.alone] w (JAt b g c n t xs (joinD xs[t].d at_ y) w) := by
  subst hn
  obtain ⟨g', c', hv, hc, _, hbg, cs, hcs⟩ := dus_entry hD.own ht
  injection hv with hv1 _ _
  injection hv1 with hv1
  injection hv1 with hv1
  subst hv1
  have hln := hD.lns xs[t] (List.getElem_mem ht)
  obtain ⟨P, cp, hdv, _⟩ := own_slice hln
  have c0 : w.cell? ⟨g, t * 6, none⟩ = some xs[t].v := hc 0 _ rfl
  have hln2 := hln
  rw [hdv] at c0 hln2
  rw [← nats_len] at c0 hln2 hlen
  refine (join_raw hcs (at_ : Int) u z _ _ _ _ _ _ _ _ _ _ c0 (hc 1 _ rfl) (hc 2 _ rfl) (hc 4 _ rfl) (hc 5 _ rfl) hln2 hlen hbw h1 h3 h2 h4 rfl rfl hok.1 hok.2 _ _ rfl rfl).mono ?_
  rintro e w' ⟨rfl, wq, w6, g5, cap, hq, hg, ho, hat, hb⟩
  have hDq := hD.later hq
  have hown : (Value.slice P (nats xs[t].d.ls).length cp).ownBlock = xs[t].v.ownBlock := by rw [hdv, nats_len]
  rw [hown] at hg hat
  have hle : b ≤ wq.heap.size := Nat.le_trans hbw hq.size
  have hdj := DusW.join (y := joinD xs[t].d at_ y) (v' := .slice (some ⟨g5, 0, none⟩) ((nats xs[t].d.ls).length + 1) cap) hDq ht hg
    (by
      have e1 : (joinD xs[t].d at_ y).ls.length = (nats xs[t].d.ls).length + 1 := by simp [joinD, nats]
      have e2 : nats (joinD xs[t].d at_ y).ls = nats xs[t].d.ls ++ [(at_ : Int)] := by simp [joinD, nats]
      rw [e1, e2]
      exact ho)
    (fun q hq2 => by
      injection hq2 with hq2
      subst hq2
      exact hat) rfl
  rw [List.length_set] at hdj
  have hbq : Below b w wq := hq.mono hbw
  have hb6 : Below b w w6 := hbq.grown hg hle (fun k hk => (hln.lt k hk).1)
  have hbp := below_put5 (g := g) hb6 hbg (t * 6) (.slice (some ⟨g5, 0, none⟩) ((nats xs[t].d.ls).length + 1) cap) (.int .i64 (xs[t].d.alone + y.alone)) (.int .i64 (xs[t].d.units + y.units)) (.int .i64 (min xs[t].d.first y.first)) (.int .i64 (max xs[t].d.last y.last))
  refine ⟨rfl, ⟨_, hdj.later hb⟩, hbp.trans (hb.mono (Nat.le_trans hbw hbp.size)), fun q cs2 hq2 => ?_⟩
  have k1 := hq2.below hq hq2.lt
  have k2 : Blk w6 q 71 cs2 := k1.grown hg (own_box (own_blw hln hq) k1 (by decide))
  have hqg : q ≠ g := fun e => by
    subst e
    have h1 : w.heap[q]? = _ := hq2
    have h2 : w.heap[q]? = _ := hcs
    rw [h1] at h2
    injection h2 with h2
    injection h2 with _ h2
    exact absurd h2 (by decide)
  have k3 := ((((k2.far (p := ⟨g, t * 6, none⟩) hqg (.slice (some ⟨g5, 0, none⟩) ((nats xs[t].d.ls).length + 1) cap)).far (p := ⟨g, t * 6 + 1, none⟩) hqg (.int .i64 (xs[t].d.alone + y.alone))).far (p := ⟨g, t * 6 + 2, none⟩) hqg (.int .i64 (xs[t].d.units + y.units))).far (p := ⟨g, t * 6 + 4, none⟩) hqg (.int .i64 (min xs[t].d.first y.first))).far (p := ⟨g, t * 6 + 5, none⟩) hqg (.int .i64 (max xs[t].d.last y.last))
  exact Blk.below (k3 : Blk (put5 w6 g (t * 6) _ _ _ _ _) q _ cs2) hb (Blk.lt k3)
end
/-- In Find's loop: lines below j are shared out. -/
structure FW (w0 : World) (f : Nat → LnD) (j : Nat) (vK vD : Value) (xs : List DV) (w : World) : Prop where
  ks : w.ownsRow w0.heap.size 71 2 vK (keys f j).length ((keys f j).flatMap kcell)
  ds : DusW w0.heap.size vD xs w
  eq : xs.map (·.d) = dus f j
  be : Below w0.heap.size w0 w
section
variable {w0 w w' : World} {f : Nat → LnD} {j t : Nat} {vK vD : Value} {xs : List DV}
theorem FW.later (h : FW w0 f j vK vD xs w) (hb : Below w.heap.size w w') : FW w0 f j vK vD xs w' := ⟨own_blw h.ks hb, h.ds.later hb, h.eq, h.be.trans (hb.mono h.be.size)⟩
theorem FW.len (h : FW w0 f j vK vD xs w) : xs.length = (firsts f j).length := by rw [← dus_len, ← h.eq, List.length_map]
theorem FW.at_ (h : FW w0 f j vK vD xs w) (ht : t < xs.length) : xs[t].d = duAt f j ((firsts f j)[t]'(by rw [← h.len]; exact ht)) := by
  have h1 : (xs.map (·.d))[t]'(by simpa using ht) = (dus f j)[t]'(by rw [dus_len, ← h.len]; exact ht) := by simp [h.eq]
  rw [dus_at (by rw [← h.len]; exact ht)] at h1
  simpa using h1
theorem key_cells {A : Option Addr} {ks : List (Int × Int)} (hr : Row w 0 A (ks.flatMap kcell)) (ht : t < ks.length) : ∃ ad, A = some ad ∧ w.cell? (ad.add (t * 2)) = some (.int .i64 ks[t].1) ∧ w.cell? ⟨(ad.add (t * 2)).block, (ad.add (t * 2)).off + 1, none⟩ = some (.int .i64 ks[t].2) := by
  obtain ⟨ad, had, _, hc⟩ := hr (by rw [flat_len kcell_len]; omega)
  have cellj : ∀ i, i < 2 → ∀ u, (kcell ks[t])[i]? = some u → w.cell? (ad.add (t * 2 + i)) = some u := fun i hi u hu => hc (t * 2 + i) u ((flat_at kcell_len ht i hi).trans hu)
  have step : (ad.add (t * 2)).add 1 = ⟨(ad.add (t * 2)).block, (ad.add (t * 2)).off + 1, none⟩ := by
    generalize ad.add (t * 2) = p
    unfold Addr.add
    rw [if_neg (by omega)]
  refine ⟨ad, had, by simpa using cellj 0 (by omega) _ rfl, ?_⟩
  rw [← step, add_add]
  exact cellj 1 (by omega) _ rfl
/-- Where a line's key stands. -/
theorem keys_at (ht : t < (keys f j).length) : (keys f j)[t] = (f ((firsts f j)[t]'(by rw [← keys_len]; exact ht))).key := by simp [keys]
def FRet (its : List It) (R : List PRow) (day : Int) (ls : List Ln) (w : World) (e : Ending) (w' : World) : Prop :=
  ∃ v xs, e = .returned (.tuple #[v, .int .i64 (findE its R day ls)]) ∧ DusW w.heap.size v xs w' ∧ xs.map (·.d) = findL its R day ls ∧ Below w.heap.size w w'
theorem fret_bad {its : List It} {R : List PRow} {day : Int} {ls : List Ln} {e : Int} (w' : World) (hb : Below w.heap.size w w') (h : findE its R day ls = e) (h0 : e ≠ 0) : FRet its R day ls w (.returned (.tuple #[.slice none 0 0, .int .i64 e])) w' := by
  refine ⟨.slice none 0 0, [], by rw [h], DusW.nil _ _, ?_, hb⟩
  unfold findL
  rw [if_neg (by rw [h]; exact h0)]
  rfl
theorem find_no (S : Nat → Prop) (its : List It) (R : List PRow) (A : Option Addr) (ls : List Ln) (c b : Nat) (day : Int) (h : BkW S b its R w) (hr : Row w 0 A (lcells ls)) (hl : ls.length ≤ 1000000) (hno : day < 0 ∨ checkE its.length ls ≠ 0) :
    Calls Try.prog 11 #[.pointer (some ⟨b, 0, none⟩), .slice A ls.length c, .int .i64 day] w (FRet its R day ls w) := by
  by_cases hd : day < 0
  · have HB := Lib.hid (fret_bad w (Below.refl _ w) (show findE its R day ls = 1 by unfold findE; rw [if_pos hd]) (by decide))
    generalize ls.length = n at *
    clear h hr hno
    go_enter Try.func11, Try.ntmps11
    go_wp2_with fail
    go_ret2
    exact HB.out
  · have hce : checkE its.length ls ≠ 0 := hno.resolve_left hd
    have HC := Lib.hid (check_any h A ls c hr hl _ rfl)
    have HB := Lib.hid (fun w' hb => fret_bad (w := w) w' hb (show findE its R day ls = checkE its.length ls by unfold findE; rw [if_neg hd, if_neg hce]) hce)
    generalize checkE its.length ls = e at *
    have hne : (e == 0) = false := by simpa using hce
    generalize ls.length = n at *
    clear h hr hno
    go_enter Try.func11, Try.ntmps11
    go_wp2_with fail
    refine HC.out.mono ?_
    rintro e' w1 ⟨rfl, hb⟩
    have HBB := Lib.hid (HB.out w1 hb)
    clear hb
    go_wp2_with fail
    go_ret2
    exact HBB.out
theorem DusW.kept {b b2 n2 : Nat} {v vK : Value} {zs : List Value} {w1 : World} (h : DusW b v xs w) (hK : w.ownsRow b2 71 2 vK n2 zs) (hg : w.grownBy w1 vK.ownBlock) : DusW b v xs w1 :=
  ⟨h.own.kept hg (own_ty h.own hK (by decide)), fun x hx => (h.lns x hx).kept hg (own_ty (h.lns x hx) hK (by decide)), h.apart⟩
theorem find_yes {its : List It} {R : List PRow} {day : Int} {ls : List Ln} (hd : ¬ day < 0) (hc : checkE its.length ls = 0) (h : okAll (fL its R day ls) ls.length) : findE its R day ls = 0 ∧ findL its R day ls = dus (fL its R day ls) ls.length := by
  have h1 : findE its R day ls = 0 := by unfold findE; rw [if_neg hd, if_pos hc, if_pos h]
  exact ⟨h1, by unfold findL; rw [if_pos h1]⟩
theorem find_over {its : List It} {R : List PRow} {day : Int} {ls : List Ln} (hd : ¬ day < 0) (hc : checkE its.length ls = 0) (h : ¬ okAll (fL its R day ls) ls.length) : findE its R day ls = 3 := by
  unfold findE; rw [if_neg hd, if_pos hc, if_neg h]
/-- Behind join, a line more is shared out. -/
theorem fw_old {g c n : Nat} {y : Du} {v' : Value} {w1 : World} (hF : FW w0 f j vK (.slice (some ⟨g, 0, none⟩) n c) xs w) (hn : xs.length = n) (ht : t < xs.length) (hk : (f ((firsts f j)[t]'(by rw [← hF.len]; exact ht))).key = (f j).key) (hy : y = joinD xs[t].d j (f j)) (hD : DusW w0.heap.size (.slice (some ⟨g, 0, none⟩) n c) (xs.set t ⟨y, v'⟩) w1) (hb : Below w0.heap.size w w1) (hkb : ∀ q cs, Blk w q 71 cs → Blk w1 q 71 cs) :
    FW w0 f (j + 1) vK (.slice (some ⟨g, 0, none⟩) n c) (xs.set t ⟨y, v'⟩) w1 := by
  have hs := step_old (f := f) (j := j) (by rw [← hF.len]; exact ht) hk
  refine ⟨?_, hD, ?_, hF.be.trans hb⟩
  · rw [hs.2.1]
    refine ⟨hF.ks.1, hF.ks.2.imp id fun ⟨g1, cap, cur, e1, hg1, hh, r⟩ => ⟨g1, cap, cur, e1, hg1, hkb g1 cur hh, r⟩⟩
  · rw [hs.2.2, List.map_set, hF.eq, hy, hF.at_ ht]
theorem fw_new {g c n : Nat} {y : Du} {v' vK2 : Value} {w1 : World} (hF : FW w0 f j vK vD xs w) (hno : ∀ s (hs : s < (firsts f j).length), (f (firsts f j)[s]).key ≠ (f j).key) (hn : xs.length + 1 = n) (hy : y = joinD (du0 (f j)) j (f j)) (hD : DusW w0.heap.size (.slice (some ⟨g, 0, none⟩) n c) (xs ++ [⟨y, v'⟩]) w1)
    (hK : w1.ownsRow w0.heap.size 71 2 vK2 ((keys f j).length + 1) ((keys f j).flatMap kcell ++ kcell (f j).key)) (hb : Below w0.heap.size w0 w1) : FW w0 f (j + 1) vK2 (.slice (some ⟨g, 0, none⟩) n c) (xs ++ [⟨y, v'⟩]) w1 := by
  have hs := step_new (f := f) (j := j) hno
  refine ⟨?_, hD, ?_, hb⟩
  · rw [hs.2.1, List.length_append, List.flatMap_append]
    simpa using hK
  · rw [hs.2.2, List.map_append, hF.eq, hy]
    rfl
set_option maxHeartbeats 8000000 in
set_option maxRecDepth 100000 in
theorem find_go (S : Nat → Prop) (its : List It) (R : List PRow) (A : Option Addr) (ls : List Ln) (c b : Nat) (day : Int) (h : BkW S b its R w) (hk : BkOk its R) (hr : Row w 0 A (lcells ls)) (hd : ¬ day < 0) (hc : checkE its.length ls = 0)
    (hu : ∀ i, i < ls.length → I64 (lnAt ls i).units) (hpos : Pos (fL its R day ls) ls.length) (h03 : ∀ i, i < ls.length → (fL its R day ls i).e = 0 ∨ (fL its R day ls i).e = 3) (hIa : ∀ i, i < ls.length → I64 (fL its R day ls i).alone) :
    Calls Try.prog 11 #[.pointer (some ⟨b, 0, none⟩), .slice A ls.length c, .int .i64 day] w (FRet its R day ls w) := by
  have h12 := (check_all hc).2.1
  have HB := Lib.hid h
  have HK := Lib.hid hk
  have HR := Lib.hid hr
  have HU := Lib.hid hu
  have H03 := Lib.hid h03
  have HIA := Lib.hid hIa
  have HLEN := Lib.hid (show its.length ≤ 1000000 by have := hk.len; omega)
  have HC := Lib.hid (check_any h A ls c hr (by omega) 0 hc)
  have HYES := Lib.hid (fun h => find_yes (R := R) hd hc h)
  have HNO := Lib.hid (fun w' hb (j : Nat) (hj : j ≤ ls.length) (h : ¬ okAll (fL its R day ls) j) => fret_bad (w := w) w' hb (find_over (R := R) hd hc (fun h2 => h (okAll_less h2 hpos hj))) (by decide))
  obtain ⟨f, hf⟩ : ∃ f, fL its R day ls = f := ⟨_, rfl⟩
  have HF := Lib.hid hf
  rw [hf] at H03 HIA HYES HNO
  obtain ⟨n, hn⟩ : ∃ n, ls.length = n := ⟨_, rfl⟩
  rw [hn] at h12 HC HNO HYES HU H03 HIA ⊢
  have HN := Lib.hid hn
  clear h hk hr hc hu hpos h03 hIa hf hn
  go_enter Try.func11, Try.ntmps11
  go_wp2_with fail
  refine HC.out.mono ?_
  rintro e w1 ⟨rfl, hb⟩
  have HB1 := Lib.hid hb
  clear hb HC
  go_wp2_with fail
  go_loopw [9, 10, 34] (fun vD vK v wr => ∃ (j : Nat) (xs : List DV), v = .int .i64 (j : Int) ∧ j ≤ n ∧ FW w f j vK vD xs wr ∧ okAll f j) (fun _ _ v _ => n - (intOf v).toNat)
  case atStart => exact ⟨0, [], rfl, by omega, ⟨World.ownsRow_nil _ _ _ _, DusW.nil _ _, rfl, HB1.out⟩, okAll_zero f⟩
  case round =>
    obtain ⟨j, xs, rfl, hj, hFW, hok⟩ := hrel
    have HFW := Lib.hid hFW
    have HOK := Lib.hid hok
    have j0 : (0 : Int) ≤ (j : Int) := Int.natCast_nonneg _
    have hbe := hFW.be
    clear hok
    by_cases hlt : j < n
    · have hjl : j < ls.length := by rw [HN.out]; exact hlt
      obtain ⟨ad, rfl, x0, x1, x2, x3, x4⟩ := l_cells (HR.out.below hbe) hjl
      have hfj : f j = lnd its R day j (lnAt ls j) := by rw [← HF.out]; rfl
      have hux := HU.out j hlt
      have h3 := H03.out j hlt
      have hia := HIA.out j hlt
      obtain ⟨x, hx⟩ : ∃ x, lnAt ls j = x := ⟨_, rfl⟩
      rw [hx] at x0 x1 x2 x3 x4 hfj hux
      have HA := Lib.hid (fun (W : World) (hb : Below w.heap.size w W) => alone_any (HB.out.later hb) HK.out x hux day (f j).alone (f j).e (by rw [hfj]; exact ⟨rfl, rfl⟩))
      have HO := Lib.hid (fun (W : World) (hb : Below w.heap.size w W) => of_any (HB.out.later hb) HLEN.out j x (f j).key (by rw [hfj]; rfl))
      have HI := Lib.hid (fun (W : World) (hb : Below w.heap.size w W) => item_any (HB.out.later hb) HLEN.out x.item _ _ ⟨rfl, rfl⟩)
      have HFJ := Lib.hid (show (f j).method = (itN its x.item).method ∧ (f j).units = x.units ∧ (f j).first = x.first ∧ (f j).last = x.last by rw [hfj]; exact ⟨rfl, rfl, rfl, rfl⟩)
      have HUX := Lib.hid hux
      have HIAJ := Lib.hid hia
      clear hx hfj hux hia
      obtain ⟨t1, t2, t3, t4, t5⟩ := x
      dsimp only [Ln.val] at x0 x1 x2 x3 x4 HA HO HI HFJ HUX
      have j1 : (j : Int) < (n : Int) := by omega
      have HW1 := Lib.hid (hbe.trans ((alloc1 wr (.cells #[.int .i64 t1, .int .i64 t2, .int .i64 t3, .int .i64 t4, .int .i64 t5] 45)).mono hbe.size))
      have HBX := Lib.hid (Blk.new wr 45 #[.int .i64 t1, .int .i64 t2, .int .i64 t3, .int .i64 t4, .int .i64 t5])
      have HF1 := Lib.hid (hFW.later (alloc1 wr (.cells #[.int .i64 t1, .int .i64 t2, .int .i64 t3, .int .i64 t4, .int .i64 t5] 45)))
      obtain ⟨ea, hea⟩ : ∃ ea, (f j).e = ea := ⟨_, rfl⟩
      obtain ⟨al, hal⟩ : ∃ al, (f j).alone = al := ⟨_, rfl⟩
      rw [hea] at HA h3
      rw [hal] at HA HIAJ
      have HEA := Lib.hid hea
      have HAL := Lib.hid hal
      clear hea hal hFW hbe
      go_wp2_with fail
      refine (HA.out _ HW1.out).mono ?_
      rintro e w2 ⟨rfl, hb2⟩
      have HW2 := Lib.hid (HW1.out.trans (hb2.mono HW1.out.size))
      have HF2 := Lib.hid (HF1.out.later hb2)
      have HX2 := Lib.hid (HBX.out.below hb2 HBX.out.lt)
      obtain ⟨Q, hQ⟩ : ∃ Q, wr.heap.size = Q := ⟨_, rfl⟩
      rw [hQ] at HX2 ⊢
      clear hb2 hQ HW1 HF1 HBX x0 x1 x2 x3 x4
      have x0 : w2.cell? ⟨Q, 0, none⟩ = some (.int .i64 t1) := HX2.out.cell 0
      have x1 : w2.cell? ⟨Q, 1, none⟩ = some (.int .i64 t2) := HX2.out.cell 1
      have x2 : w2.cell? ⟨Q, 2, none⟩ = some (.int .i64 t3) := HX2.out.cell 2
      have x3 : w2.cell? ⟨Q, 3, none⟩ = some (.int .i64 t4) := HX2.out.cell 3
      have x4 : w2.cell? ⟨Q, 4, none⟩ = some (.int .i64 t5) := HX2.out.cell 4
      rcases h3 with rfl | rfl
      rotate_left
      · have HBAD := Lib.hid (HNO.out w2 HW2.out (j + 1) (by omega) (ok_err (by rw [HEA.out]; decide)))
        go_wp2_with fail
        go_ret2
        exact HBAD.out
      go_wp2_with fail
      refine (HO.out _ HW2.out).mono ?_
      rintro e w3 ⟨rfl, hb3⟩
      have HW3 := Lib.hid (HW2.out.trans (hb3.mono HW2.out.size))
      have HF3 := Lib.hid (HF2.out.later hb3)
      have HX3 := Lib.hid (HX2.out.below hb3 HX2.out.lt)
      clear hb3 x0 x1 x2 x3 x4 HF2 HW2 HX2
      obtain ⟨ky, hky⟩ : ∃ ky, (f j).key = ky := ⟨_, rfl⟩
      rw [hky]
      have HKY := Lib.hid hky
      clear hky
      obtain ⟨k1, k2⟩ := ky
      dsimp only
      have HAL4 := Lib.hid (alloc1 w3 (.cells #[.int .i64 k1, .int .i64 k2] 71))
      have HKB := Lib.hid (Blk.new w3 71 #[.int .i64 k1, .int .i64 k2])
      go_wp2_with fail
      have HF4 := Lib.hid (HF3.out.later HAL4.out)
      have HW4 := Lib.hid (HW3.out.trans (HAL4.out.mono HW3.out.size))
      have HX4 := Lib.hid (HX3.out.alloc (.cells #[.int .i64 k1, .int .i64 k2] 71))
      obtain ⟨BK, cK, hvK, _⟩ := own_slice HF4.out.ks
      subst hvK
      obtain ⟨w4, hw4⟩ : ∃ w4, w3.alloc (.cells #[.int .i64 k1, .int .i64 k2] 71) = w4 := ⟨_, rfl⟩
      obtain ⟨Kb, hKb⟩ : ∃ Kb, w3.heap.size = Kb := ⟨_, rfl⟩
      rw [hw4] at HF4 HW4 HX4 HKB ⊢
      rw [hKb] at HKB ⊢
      clear hw4 hKb HAL4 HF3 HW3 HX3 HFW
      obtain ⟨mk, hmk⟩ : ∃ mk, (keys f j).length = mk := ⟨_, rfl⟩
      have HMK := Lib.hid hmk
      have hxl : xs.length = mk := by rw [HF4.out.len, ← keys_len, hmk]
      have hm12 : mk ≤ 12 := by have := firsts_len f j; rw [← hmk, keys_len]; omega
      rw [hmk]
      clear hmk
      go_loopw [16] (fun v wx => ∃ t : Nat, v = .int .i64 (t : Int) ∧ t ≤ mk ∧ Below w4.heap.size w4 wx ∧ ∀ s (hs : s < (firsts f j).length), s < t → (f (firsts f j)[s]).key ≠ (f j).key) (fun v _ => mk - (intOf v).toNat)
      case atStart => exact ⟨0, rfl, by omega, Below.refl _ _, fun s _ h0 => by omega⟩
      case round =>
        obtain ⟨t, rfl, htm, hbe4, hnos⟩ := hrel
        have HNOS := Lib.hid hnos
        have HF5 := Lib.hid (HF4.out.later hbe4)
        have HW5 := Lib.hid (HW4.out.trans (hbe4.mono HW4.out.size))
        have HX5 := Lib.hid (HX4.out.below hbe4 HX4.out.lt)
        have hkb5 := HKB.out.below hbe4 HKB.out.lt
        have HKB5 := Lib.hid hkb5
        have y0 : wr.cell? ⟨Kb, 0, none⟩ = some (.int .i64 k1) := hkb5.cell 0
        have y1 : wr.cell? ⟨Kb, 1, none⟩ = some (.int .i64 k2) := hkb5.cell 1
        have t0 : (0 : Int) ≤ (t : Int) := Int.natCast_nonneg _
        have HBE4 := Lib.hid hbe4
        clear hnos hbe4 hkb5
        by_cases htl : t < mk
        · have htk : t < (keys f j).length := by rw [HMK.out]; exact htl
          obtain ⟨ad2, rfl, z0, z1⟩ := key_cells ((Row.of_own HF5.out.ks (by decide)).weak (Nat.zero_le _)) htk
          have hka := keys_at htk
          obtain ⟨p, hp⟩ : ∃ p, (keys f j)[t] = p := ⟨_, rfl⟩
          rw [hp] at z0 z1 hka
          have HKA := Lib.hid hka
          clear hp hka
          obtain ⟨p1, p2⟩ := p
          dsimp only at z0 z1
          have t1' : (t : Int) < (mk : Int) := by omega
          by_cases hpk : p1 = k1 ∧ p2 = k2
          · obtain ⟨rfl, rfl⟩ := hpk
            have htx : t < xs.length := by omega
            have HEQ := Lib.hid (show (f ((firsts f j)[t]'(by rw [← keys_len]; exact htk))).key = (f j).key by rw [← HKA.out, HKY.out])
            go_wp2_with fail
            go_quiet (fail)
            have HF6 := Lib.hid (HF5.out.later ((Exact.Later.refl wr).drewN nq))
            have HW6 := Lib.hid (HW5.out.trans (((Exact.Later.refl wr).drewN nq).mono HW5.out.size))
            have HX6 := Lib.hid (HX5.out.drewN nq)
            obtain ⟨w6, hw6⟩ : ∃ w6, wr.drewN nq = w6 := ⟨_, rfl⟩
            rw [hw6] at HF6 HW6 HX6 ⊢
            clear hw6 z0 z1 y0 y1 HF5 HW5 HX5
            have x0 : w6.cell? ⟨Q, 0, none⟩ = some (.int .i64 t1) := HX6.out.cell 0
            have x1 : w6.cell? ⟨Q, 1, none⟩ = some (.int .i64 t2) := HX6.out.cell 1
            have x2 : w6.cell? ⟨Q, 2, none⟩ = some (.int .i64 t3) := HX6.out.cell 2
            have x3 : w6.cell? ⟨Q, 3, none⟩ = some (.int .i64 t4) := HX6.out.cell 3
            have x4 : w6.cell? ⟨Q, 4, none⟩ = some (.int .i64 t5) := HX6.out.cell 4
            have hne : ((t : Int) == (mk : Int)) = false := by simpa using (show ¬ (t : Int) = (mk : Int) by omega)
            have hne2 : ¬ t = mk := by omega
            obtain ⟨g, c9, hvD, _⟩ := dus_entry HF6.out.ds.own htx
            rw [hxl] at hvD
            subst hvD
            have HXL := Lib.hid hxl
            have hat := HF6.out.at_ htx
            have hokn := ok_old HOK.out (by rw [← keys_len]; exact htk) HEQ.out HEA.out
            rw [← hat] at hokn
            have hod := HOK.out.2 xs[t].d (by rw [← HF6.out.eq]; exact List.mem_map_of_mem (List.getElem_mem htx))
            have hlsl : xs[t].d.ls.length ≤ 1000 := by rw [hat, duAt_ls]; have := grp_len f j ((firsts f j)[t]'(by rw [← keys_len]; exact htk)); omega
            by_cases hok1 : okD (joinD xs[t].d j (f j))
            · have HJ := Lib.hid (fun (W : World) (hb : Below w6.heap.size w6 W) => join_at (HF6.out.ds.later hb) HXL.out htx j (f j) t1 t3 hod.1 hod.2 (by rw [HAL.out]; exact HIAJ.out) (by rw [HFJ.out.2.1]; exact HUX.out) hlsl (Nat.le_trans HW6.out.size hb.size) hok1)
              rw [HAL.out, HFJ.out.2.1, HFJ.out.2.2.1, HFJ.out.2.2.2] at HJ
              have HFO := Lib.hid (fun (W W1 : World) (v' : Value) (hb : Below w6.heap.size w6 W) (hD : DusW w.heap.size (.slice (some ⟨g, 0, none⟩) mk c9) (xs.set t ⟨joinD xs[t].d j (f j), v'⟩) W1) (hb1 : Below w.heap.size W W1) (hkb : ∀ q cs, Blk W q 71 cs → Blk W1 q 71 cs) => fw_old (y := joinD xs[t].d j (f j)) (v' := v') (w1 := W1) (HF6.out.later hb) HXL.out htx HEQ.out rfl hD hb1 hkb)
              have HOK2 := Lib.hid (hokn.2 hok1)
              clear hat hokn hod hlsl hok1
              go_wp2_with fail
              have HLT := Lib.hid ((Exact.Later.refl w6).drew)
              go_region_with ((go_at_call 26; refine (HJ.out _ HLT.out).mono ?_; rintro e w7 ⟨rfl, ⟨v7, hD7⟩, hb7, hk7⟩; have HF7 := Lib.hid (HFO.out _ w7 v7 HLT.out hD7 hb7 hk7); clear hD7 hb7 hk7))
              all_goals
                rw [HMK.out] at HF7
                go_wp2_with fail
                go_roundw
                case rel => exact ⟨j + 1, _, by go_num, by omega, HF7.out, HOK2.out⟩
                case measure => simp only [intOf]; omega
            · have HJ := Lib.hid (fun (W : World) (hb : Below w6.heap.size w6 W) => join_no (HXL.out ▸ HF6.out.ds.later hb) htx j (f j) t1 t3 hod.1 hod.2 (by rw [HAL.out]; exact HIAJ.out) (by rw [HFJ.out.2.1]; exact HUX.out) hok1)
              rw [HAL.out, HFJ.out.2.1, HFJ.out.2.2.1, HFJ.out.2.2.2] at HJ
              have HBAD := Lib.hid (fun W hb => HNO.out W hb (j + 1) (by omega) (fun c2 => hok1 (hokn.1 c2)))
              clear hat hokn hod hlsl hok1
              go_wp2_with fail
              have HLT := Lib.hid ((Exact.Later.refl w6).drew)
              go_region_with ((go_at_call 26; refine (HJ.out _ HLT.out).mono ?_; rintro e w7 ⟨rfl, hb7⟩; have HB7 := Lib.hid (HBAD.out w7 (HW6.out.trans ((HLT.out.trans hb7).mono HW6.out.size))); clear hb7))
              all_goals
                go_wp2_with fail
                go_ret2
                exact HB7.out
          · have hne : (p1 == k1 && p2 == k2) = false := by
              simp only [Bool.and_eq_false_iff, beq_eq_false_iff_ne]
              by_cases a0 : p1 = k1
              · exact .inr fun a1 => hpk ⟨a0, a1⟩
              · exact .inl a0
            have HNX := Lib.hid (show ∀ s (hs : s < (firsts f j).length), s < t + 1 → (f (firsts f j)[s]).key ≠ (f j).key from fun s hs hst => by
              by_cases hst2 : s = t
              · subst hst2
                rw [← HKA.out, HKY.out]
                intro e
                injection e with e1 e2
                exact hpk ⟨e1, e2⟩
              · exact HNOS.out s hs (by omega))
            clear hpk
            by_cases a0 : p1 = k1
            · subst a0
              have e2 : (p2 == k2) = false := by simpa using hne
              clear hne
              go_wp2_with fail
              go_quiet (fail)
              go_wp2_with fail
              go_roundw
              case rel => exact ⟨t + 1, by go_num, by omega, Exact.Later.drewN HBE4.out nq, HNX.out⟩
              case measure => simp only [intOf]; omega
            · have e2 : (p1 == k1) = false := by simpa using a0
              clear hne a0
              go_wp2_with fail
              go_quiet (fail)
              go_wp2_with fail
              go_roundw
              case rel => exact ⟨t + 1, by go_num, by omega, Exact.Later.drewN HBE4.out nq, HNX.out⟩
              case measure => simp only [intOf]; omega
        · obtain rfl : t = mk := by omega
          have hno : ∀ s (hs : s < (firsts f j).length), (f (firsts f j)[s]).key ≠ (f j).key := fun s hs => HNOS.out s hs (by rw [← HMK.out, keys_len]; exact hs)
          have HNOK := Lib.hid hno
          have hokn := ok_new HOK.out hno HEA.out
          obtain ⟨AD, cD, hvD, _⟩ := HF5.out.ds.sl
          rw [hxl] at hvD
          subst hvD
          have HXL := Lib.hid hxl
          have hs5 : w.heap.size ≤ wr.heap.size := HW5.out.size
          go_wp2_with fail
          go_quiet (fail)
          have HF6 := Lib.hid (HF5.out.later ((Exact.Later.refl wr).drewN nq))
          have HW6 := Lib.hid (HW5.out.trans (((Exact.Later.refl wr).drewN nq).mono HW5.out.size))
          have HX6 := Lib.hid (HX5.out.drewN nq)
          have HK6 := Lib.hid (HKB5.out.drewN nq)
          obtain ⟨w6, hw6⟩ : ∃ w6, wr.drewN nq = w6 := ⟨_, rfl⟩
          rw [hw6] at HF6 HW6 HX6 HK6 ⊢
          clear hw6 y0 y1 HF5 HW5 HX5 HKB5 hno
          have x0 : w6.cell? ⟨Q, 0, none⟩ = some (.int .i64 t1) := HX6.out.cell 0
          obtain ⟨it, hit⟩ : ∃ it, itN its t1 = it := ⟨_, rfl⟩
          obtain ⟨rr, hrr⟩ : ∃ rr, inI its.length t1 = rr := ⟨_, rfl⟩
          rw [hit, hrr] at HI
          rw [hit] at HFJ
          clear hit hrr
          obtain ⟨i1, i2, i3, i4⟩ := it
          dsimp only [It.val] at HI HFJ
          go_wp2_with fail
          refine (HI.out _ HW6.out).mono ?_
          rintro e w7 ⟨rfl, hb7⟩
          have hal7 := alloc1 w7 (.cells #[.int .i64 i1, .int .i64 i2, .int .i64 i3, .int .i64 i4] 50)
          have hL7 : Exact.Later w6 (w7.alloc (.cells #[.int .i64 i1, .int .i64 i2, .int .i64 i3, .int .i64 i4] 50)) := hb7.trans (hal7.mono hb7.size)
          have HF7 := Lib.hid (HF6.out.later hL7)
          have HW7 := Lib.hid (HW6.out.trans (hL7.mono HW6.out.size))
          have hx7 := HX6.out.below hL7 HX6.out.lt
          have hk7 := HK6.out.below hL7 HK6.out.lt
          have HX7 := Lib.hid hx7
          have HIT7 := Lib.hid (Blk.new w7 50 #[.int .i64 i1, .int .i64 i2, .int .i64 i3, .int .i64 i4])
          have HX7b := Lib.hid (HX6.out.below hb7 HX6.out.lt)
          have x3 : w7.cell? ⟨Q, 3, none⟩ = some (.int .i64 t4) := HX7b.out.cell 3
          have x4 : w7.cell? ⟨Q, 4, none⟩ = some (.int .i64 t5) := HX7b.out.cell 4
          have x0' : w7.cell? ⟨Q, 0, none⟩ = some (.int .i64 t1) := HX7b.out.cell 0
          have hk7b := HK6.out.below hb7 HK6.out.lt
          have y0 : w7.cell? ⟨Kb, 0, none⟩ = some (.int .i64 k1) := hk7b.cell 0
          have y1 : w7.cell? ⟨Kb, 1, none⟩ = some (.int .i64 k2) := hk7b.cell 1
          have hQ7 := HX7b.out.lt
          have hK7 := hk7b.lt
          have HKN := Lib.hid (show Blk ((w7.alloc (.cells #[.int .i64 i1, .int .i64 i2, .int .i64 i3, .int .i64 i4] 50)).alloc (.cells #[.int .i64 k1, .int .i64 k2] 71)) (w7.heap.size + 1) 71 #[.int .i64 k1, .int .i64 k2] from by
            have := Blk.new (w7.alloc (.cells #[.int .i64 i1, .int .i64 i2, .int .i64 i3, .int .i64 i4] 50)) 71 #[.int .i64 k1, .int .i64 k2]
            simpa using this)
          have hks7 := HF7.out.ks
          rw [HMK.out] at hks7
          have HKS := Lib.hid (hks7.alloc (.cells #[.int .i64 k1, .int .i64 k2] 71))
          have HDS := Lib.hid (HF7.out.ds.later (alloc1 _ (.cells #[.int .i64 k1, .int .i64 k2] 71)))
          have HWS := Lib.hid (HW7.out.alloc HW7.out.size (.cells #[.int .i64 k1, .int .i64 k2] 71))
          have HXS := Lib.hid (HX7.out.alloc (.cells #[.int .i64 k1, .int .i64 k2] 71))
          have HIS := Lib.hid (HIT7.out.alloc (.cells #[.int .i64 k1, .int .i64 k2] 71))
          have HD0 := Lib.hid (show dvc ⟨du0 (f j), .slice none 0 0⟩ = [.slice none 0 0, .int .i64 0, .int .i64 0, .int .i64 i3, .int .i64 t4, .int .i64 t5] by
            unfold dvc du0
            rw [HFJ.out.1, HFJ.out.2.2.1, HFJ.out.2.2.2])
          have hbk1 : (t + 1) * 16 ≤ 140737488355328 := by omega
          have hbk2 : t + 1 ≤ maxLen := by unfold maxLen; omega
          have hbk3 : (t + 1) * 64 ≤ 140737488355328 := by omega
          have hs7 := HWS.out.size
          clear hal7 hL7 hx7 hk7 hk7b hks7 hb7 HF6 HW6 HX6 HK6 HX7b
          go_wp2_with (first
            | (at_builtin; refine wpList_app E_key rfl (.tmp 78) (.tmp 80) rfl rfl HKS.out ⟨w7.heap.size + 1, 0, none⟩ 1 1 [.int .i64 k1, .int .i64 k2] rfl rfl (World.news_of_block HKN.out) (by simp [Value.oneCell']) hbk1 hbk2 hs7 (by decide) ?_; intro g8 c8 w8 ho8 hg8 hat8; have HK8 := Lib.hid ho8; have HD8 := Lib.hid (HDS.out.kept HKS.out hg8); have HB8 := Lib.hid (HWS.out.grown hg8 HWS.out.size (fun q hq => (HKS.out.lt q hq).1)); have hx8 := HXS.out.grown hg8 (own_box HKS.out HXS.out (by decide)); have hi8 := HIS.out.grown hg8 (own_box HKS.out HIS.out (by decide)); have HX8 := Lib.hid hx8; have u3 : w8.cell? ⟨Q, 3, none⟩ = some (.int .i64 t4) := hx8.cell 3; have u4 : w8.cell? ⟨Q, 4, none⟩ = some (.int .i64 t5) := hx8.cell 4; have u2 : w8.cell? ⟨w7.heap.size, 2, none⟩ = some (.int .i64 i3) := hi8.cell 2; clear ho8 hg8 hat8 hx8 hi8)
            | (at_builtin; refine wpList_app E_duty rfl (.tmp 82) (.tmp 90) rfl rfl (HXL.out ▸ (HD8.out.own.alloc (.cells #[.slice none 0 0, .int .i64 0, .int .i64 0, .int .i64 i3, .int .i64 t4, .int .i64 t5] 43))) ⟨w8.heap.size, 0, none⟩ 1 1 [.slice none 0 0, .int .i64 0, .int .i64 0, .int .i64 i3, .int .i64 t4, .int .i64 t5] rfl rfl (World.news_of_block (Blk.new w8 43 #[.slice none 0 0, .int .i64 0, .int .i64 0, .int .i64 i3, .int .i64 t4, .int .i64 t5])) (by simp [Value.oneCell']) hbk3 hbk2 (by have := HB8.out.size; simp; omega) (by decide) ?_; intro g9 c9 w9 ho9 hg9 hat9; have HO9 := Lib.hid ho9; have HG9 := Lib.hid hg9; clear ho9 hg9 hat9))
          have HK9 := Lib.hid ((HK8.out.alloc (.cells #[.slice none 0 0, .int .i64 0, .int .i64 0, .int .i64 i3, .int .i64 t4, .int .i64 t5] 43)).kept HG9.out (own_ty (HK8.out.alloc (.cells #[.slice none 0 0, .int .i64 0, .int .i64 0, .int .i64 i3, .int .i64 t4, .int .i64 t5] 43)) (HD8.out.own.alloc (.cells #[.slice none 0 0, .int .i64 0, .int .i64 0, .int .i64 i3, .int .i64 t4, .int .i64 t5] 43)) (by decide)))
          have HB9 := Lib.hid ((HB8.out.alloc HB8.out.size (.cells #[.slice none 0 0, .int .i64 0, .int .i64 0, .int .i64 i3, .int .i64 t4, .int .i64 t5] 43)).grown HG9.out (by have := HB8.out.size; simp; omega) (fun q hq => (HD8.out.own.lt q hq).1))
          have hx9 := (HX8.out.alloc (.cells #[.slice none 0 0, .int .i64 0, .int .i64 0, .int .i64 i3, .int .i64 t4, .int .i64 t5] 43)).grown HG9.out (own_box (HD8.out.own.alloc (.cells #[.slice none 0 0, .int .i64 0, .int .i64 0, .int .i64 i3, .int .i64 t4, .int .i64 t5] 43)) (HX8.out.alloc (.cells #[.slice none 0 0, .int .i64 0, .int .i64 0, .int .i64 i3, .int .i64 t4, .int .i64 t5] 43)) (by decide))
          have s0 : w9.cell? ⟨Q, 0, none⟩ = some (.int .i64 t1) := hx9.cell 0
          have s1 : w9.cell? ⟨Q, 1, none⟩ = some (.int .i64 t2) := hx9.cell 1
          have s2 : w9.cell? ⟨Q, 2, none⟩ = some (.int .i64 t3) := hx9.cell 2
          have s3 : w9.cell? ⟨Q, 3, none⟩ = some (.int .i64 t4) := hx9.cell 3
          have s4 : w9.cell? ⟨Q, 4, none⟩ = some (.int .i64 t5) := hx9.cell 4
          have hd9 : DusW w.heap.size (.slice (some ⟨g9, 0, none⟩) (t + 1) c9) (xs ++ [⟨du0 (f j), .slice none 0 0⟩]) w9 := by
            have ho := HO9.out
            rw [← HD0.out] at ho
            have := DusW.more (B := some ⟨g9, 0, none⟩) (c := c9) (y := du0 (f j)) (HD8.out.later (alloc1 w8 _)) rfl HG9.out (by rw [HXL.out]; exact ho)
            rw [HXL.out] at this
            exact this
          obtain ⟨ys, hys⟩ : ∃ ys, xs ++ [(⟨du0 (f j), .slice none 0 0⟩ : DV)] = ys := ⟨_, rfl⟩
          rw [hys] at hd9
          have hlen9 : ys.length = t + 1 := by rw [← hys]; simp [HXL.out]
          have ht9 : t < ys.length := by omega
          have hxt : ys[t] = ⟨du0 (f j), .slice none 0 0⟩ := by
            subst hys
            rw [List.getElem_append_right (by rw [HXL.out]; exact Nat.le_refl _)]
            simp [HXL.out]
          have hset : ∀ z : DV, ys.set t z = xs ++ [z] := fun z => by
            rw [← hys, List.set_append_right _ _ (by rw [HXL.out]; exact Nat.le_refl _), HXL.out, Nat.sub_self]
            rfl
          have HSET := Lib.hid hset
          have HD9 := Lib.hid hd9
          have I0 : I64 (0 : Int) := ⟨by decide, by decide⟩
          have t1' : (t : Int) < ((t + 1 : Nat) : Int) := by omega
          have t2' : (t : Int) < (t : Int) + 1 := by omega
          have HF7K := Lib.hid HF7.out
          by_cases hok1 : okD (joinD (du0 (f j)) j (f j))
          · have HJ := Lib.hid (fun (W : World) (hb : Below w9.heap.size w9 W) => join_at (hd9.later hb) hlen9 ht9 j (f j) t1 t3 (by rw [hxt]; exact I0) (by rw [hxt]; exact I0) (by rw [HAL.out]; exact HIAJ.out) (by rw [HFJ.out.2.1]; exact HUX.out) (by rw [hxt]; exact Nat.zero_le _) (Nat.le_trans HB9.out.size hb.size) (by rw [hxt]; exact hok1))
            rw [hxt, HAL.out, HFJ.out.2.1, HFJ.out.2.2.1, HFJ.out.2.2.2] at HJ
            have HOK2 := Lib.hid (hokn.2 hok1)
            have HFN := Lib.hid (fun (W W1 : World) (v' : Value) (hb : Below w9.heap.size w9 W) (hD : DusW w.heap.size (.slice (some ⟨g9, 0, none⟩) (t + 1) c9) (ys.set t ⟨joinD (du0 (f j)) j (f j), v'⟩) W1) (hb1 : Below w.heap.size W W1) (hkb : ∀ q cs, Blk W q 71 cs → Blk W1 q 71 cs) => fw_new (y := joinD (du0 (f j)) j (f j)) (v' := v') (w1 := W1) (vK2 := .slice (some ⟨g8, 0, none⟩) (t + 1) c8) HF7K.out HNOK.out (by rw [HXL.out]) rfl (by rw [HSET.out] at hD; exact hD)
              (by
                have hk9 := own_blw HK9.out hb
                rw [HKY.out, HMK.out]
                exact ⟨hk9.1, hk9.2.imp id fun ⟨a1, a2, a3, a4, a5, a6, a7⟩ => ⟨a1, a2, a3, a4, a5, hkb a1 a3 a6, a7⟩⟩)
              (HB9.out.trans ((hb.mono HB9.out.size).trans hb1)))
            clear hokn hok1 hd9 hxt hset hys hx9
            go_wp2_with fail
            have HLT := Lib.hid ((Exact.Later.refl w9).drew)
            go_region_with ((go_at_call 26; refine (HJ.out _ HLT.out).mono ?_; rintro e w10 ⟨rfl, ⟨v10, hD10⟩, hb10, hk10⟩; have HF10 := Lib.hid (HFN.out _ w10 v10 HLT.out hD10 hb10 hk10); clear hD10 hb10 hk10))
            all_goals
              go_wp2_with fail
              go_roundw
              case rel => exact ⟨j + 1, _, by go_num, by omega, HF10.out, HOK2.out⟩
              case measure => simp only [intOf]; omega
          · have HJ := Lib.hid (fun (W : World) (hb : Below w9.heap.size w9 W) => join_no (hlen9.symm ▸ hd9.later hb) ht9 j (f j) t1 t3 (by rw [hxt]; exact I0) (by rw [hxt]; exact I0) (by rw [HAL.out]; exact HIAJ.out) (by rw [HFJ.out.2.1]; exact HUX.out) (by rw [hxt]; exact hok1))
            rw [HAL.out, HFJ.out.2.1, HFJ.out.2.2.1, HFJ.out.2.2.2] at HJ
            have HBAD := Lib.hid (fun W hb => HNO.out W hb (j + 1) (by omega) (fun c2 => hok1 (hokn.1 c2)))
            clear hokn hok1 hd9 hxt hset hys hx9
            go_wp2_with fail
            have HLT := Lib.hid ((Exact.Later.refl w9).drew)
            go_region_with ((go_at_call 26; refine (HJ.out _ HLT.out).mono ?_; rintro e w10 ⟨rfl, hb10⟩; have HB10 := Lib.hid (HBAD.out w10 (HB9.out.trans ((HLT.out.trans hb10).mono HB9.out.size))); clear hb10))
            all_goals
              go_wp2_with fail
              go_ret2
              exact HB10.out
    · obtain rfl : j = n := by omega
      have hy := HYES.out HOK.out
      have HFIN := Lib.hid (show FRet its R day ls w (.returned (.tuple #[_, .int .i64 0])) wr from ⟨_, xs, by rw [hy.1], hFW.ds, by rw [hFW.eq, hy.2], hbe⟩)
      clear hy hFW hbe
      go_wp2_with fail
      go_ret2
      exact HFIN.out
end
end Go.Proofs.Ytbdhbongaikphaa.BK
