/- The walk of a book's New. -/
import Derived.Test.YtbdhbongaikphaaBookE
import Derived.Deep.RegionLaw
namespace Go.Proofs.Ytbdhbongaikphaa.BK
open Go.RowKit Go.Proofs.Ytbdhbongaikphaa.Cents
set_option linter.unusedVariables false
set_option linter.unusedSimpArgs false

def newE (its : List It) : Int := if 40 < its.length then 4 else if anyW its = true then 1 else 0
def rows0 (its : List It) : List PRow := its.map fun x => [(0, x.price)]
theorem rowAt0 {its : List It} {i : Nat} (h : i < its.length) : rowAt (rows0 its) i = [(0, (itAt its i).price)] := by
  simp [rowAt, rows0, itAt, List.getD_eq_getElem?_getD, h]
/-- In New's loop: so many rows are made. -/
structure NewI (w0 : World) (b : Nat) (its : List It) (k : Nat) (I : Option Addr) (cI : Nat) (v : Value) (vals : List Value) (w : World) : Prop where
  be : Below w0.heap.size w0 w
  b0 : w0.heap.size ≤ b
  bx : Blk w b 56 #[.slice I its.length cI, v]
  items : RowF w (fun q => w0.heap.size ≤ q ∧ q ≠ b ∧ v.ownBlock ≠ some q) I (icells its)
  own : w.ownsRow w0.heap.size 59 1 v k vals
  row : ∀ i, i < k → ∃ A c, vals[i]? = some (.slice A 1 c) ∧ 1 ≤ c ∧ RowF w (fun q => w0.heap.size ≤ q ∧ q ≠ b ∧ v.ownBlock ≠ some q) A [.int .i64 0, .int .i64 (itAt its i).price]
theorem rowf_grown {W w2 : World} {row : Option Nat} {F : Nat → Prop} {A : Option Addr} {xs : List Value} (h : RowF W F A xs) (hg : W.grownBy w2 row) (hF : ∀ q, F q → row ≠ some q) : RowF w2 (fun q => F q ∧ q < W.heap.size) A xs :=
  (h.weak (G := fun q => F q ∧ q < W.heap.size) fun q hq hl => ⟨hq, hl⟩).keep fun p hp u hu => cell_keep (hg.block p.block hp.2 (fun e => hF _ hp.1 e.symm)) hu
section
variable {w0 w W w2 : World} {b k cI : Nat} {its : List It} {I : Option Addr} {v : Value} {vals : List Value}
theorem NewI.later (h : NewI w0 b its k I cI v vals w) (hb : Below w.heap.size w W) : NewI w0 b its k I cI v vals W where
  be := h.be.trans (hb.mono h.be.size)
  b0 := h.b0
  bx := h.bx.below hb h.bx.lt
  items := h.items.below hb
  own := own_keep h.own fun q e => hb.block q (h.own.lt q e).2
  row := fun i hi => by
    obtain ⟨A, c, h1, h2, h3⟩ := h.row i hi
    exact ⟨A, c, h1, h2, h3.below hb⟩
theorem NewI.step {q0 g cap : Nat} (h : NewI w0 b its k I cI v vals W) (hq : Blk W q0 58 #[.int .i64 0, .int .i64 (itAt its k).price]) (hq0 : b < q0) (hqv : v.ownBlock ≠ some q0)
    (hown : w2.ownsRow w0.heap.size 59 1 (.slice (some ⟨g, 0, none⟩) (k + 1) cap) (k + 1) (vals ++ [.slice (some ⟨q0, 0, none⟩) 1 1])) (hg : W.grownBy w2 v.ownBlock) (hat : v.ownBlock = some g ∨ g = W.heap.size) :
    NewI w0 b its (k + 1) I cI (.slice (some ⟨g, 0, none⟩) (k + 1) cap) (vals ++ [.slice (some ⟨q0, 0, none⟩) 1 1]) (w2.setCell ⟨b, 1, none⟩ (.slice (some ⟨g, 0, none⟩) (k + 1) cap)) := by
  have hvb : some b ≠ v.ownBlock := own_box h.own h.bx (by decide)
  have hbx2 := h.bx.grown hg hvb
  have hbe2 : Below w0.heap.size w0 w2 := h.be.grown hg h.be.size (fun j hj => by have := (h.own.lt j hj).1; omega)
  have hvl : vals.length = k := by have := h.own.1; omega
  have conv : ∀ (A : Option Addr) (xs : List Value), RowF W (fun q => w0.heap.size ≤ q ∧ q ≠ b ∧ v.ownBlock ≠ some q) A xs → RowF (w2.setCell ⟨b, 1, none⟩ (.slice (some ⟨g, 0, none⟩) (k + 1) cap)) (fun q => w0.heap.size ≤ q ∧ q ≠ b ∧ (Value.slice (some ⟨g, 0, none⟩) (k + 1) cap).ownBlock ≠ some q) A xs := fun A xs hr => by
    have h1 := rowf_grown hr hg (fun q hq => hq.2.2)
    have h2 := h1.setCell (p := ⟨b, 1, none⟩) (fun hq => hq.1.2.1 rfl) (.slice (some ⟨g, 0, none⟩) (k + 1) cap)
    refine h2.weak fun q hq _ => ⟨hq.1.1, hq.1.2.1, fun e => ?_⟩
    simp only [Value.ownBlock, Option.some.injEq] at e
    subst e
    rcases hat with e | e
    · exact hq.1.2.2 e
    · have := hq.2; omega
  have hgb : (Value.slice (some ⟨g, 0, none⟩) (k + 1) cap).ownBlock ≠ some b := fun e => by
    simp only [Value.ownBlock, Option.some.injEq] at e
    rcases hat with e2 | e2
    · rw [e] at e2; exact hvb e2.symm
    · have := h.bx.lt; omega
  refine ⟨hbe2.setCell h.b0 _, h.b0, ?_, conv _ _ h.items, ownsRow_setCell_other hown hgb _, fun i hi => ?_⟩
  · have := hbx2.set_ 1 (.slice (some ⟨g, 0, none⟩) (k + 1) cap)
    simpa using this
  · by_cases c : i = k
    · subst c
      refine ⟨some ⟨q0, 0, none⟩, 1, by rw [List.getElem?_append_right (by omega), hvl]; simp, Nat.le_refl _, conv _ _ ?_⟩
      exact fun _ => ⟨_, rfl, ⟨by have := h.b0; simp only; omega, by simp only; omega, hqv⟩, fun j u hu => by rw [addr_add, Nat.zero_add, hq.cell j]; simpa using hu⟩
    · obtain ⟨A, c2, h1, h2, h3⟩ := h.row i (by omega)
      exact ⟨A, c2, by rw [List.getElem?_append_left (by omega)]; exact h1, h2, conv _ _ h3⟩
end
theorem info_prs : (Try.prog.info? 59).map (fun i => (i.zero, i.size, i.bytes)) = some (some (.slice none 0 0), 1, 24) := by kernel_rfl
theorem E_prs : ElemT Try.prog 54 59 1 24 := .mk' Try.underlying54 info_prs rfl (by decide)
theorem new_bad (A : Option Addr) (its : List It) (c : Nat) (w : World) (hr : Row w 0 A (icells its)) (hl : its.length ≤ 1000000) (x : Int) (hx : newE its = x) (hne : x ≠ 0) :
    Calls Try.prog 7 #[.slice A its.length c] w fun e w' => e = .returned (.tuple #[.pointer none, .int .i64 x]) ∧ Below w.heap.size w w' := by
  unfold newE at hx
  by_cases h1 : 40 < its.length
  · rw [if_pos h1] at hx
    subst hx
    generalize its.length = n at *
    have h2 : decide ((40 : Int) < (n : Int)) = true := by simp; omega
    clear hr h1
    go_enter Try.func7, Try.ntmps7
    go_wp2_with fail
    go_ret2
    exact ⟨rfl, Below.refl _ _⟩
  · rw [if_neg h1] at hx
    cases h2 : anyW its with
    | false => rw [h2] at hx; simp at hx; omega
    | true =>
      rw [h2] at hx
      simp at hx
      subst hx
      have HC := Lib.hid (contains_any A its c w hr hl true h2)
      generalize its.length = n at *
      have h3 : decide ((40 : Int) < (n : Int)) = false := by simp; omega
      clear hr h1 h2
      go_enter Try.func7, Try.ntmps7
      go_wp2_with fail
      refine HC.out.mono ?_
      rintro e w1 ⟨rfl, hb⟩
      have HB := Lib.hid hb
      clear hb
      go_wp2_with fail
      go_ret2
      exact ⟨rfl, HB.out⟩
/-- What New leaves. -/
def NewRet (its : List It) (w : World) (e : Ending) (w' : World) : Prop := ∃ S b, e = .returned (.tuple #[.pointer (some ⟨b, 0, none⟩), .int .i64 0]) ∧ BkW S b its (rows0 its) w' ∧ Below w.heap.size w w' ∧ ∀ k, S k → w.heap.size ≤ k
theorem NewI.done {w0 w : World} {b cI : Nat} {its : List It} {I : Option Addr} {v : Value} {vals : List Value} (h : NewI w0 b its its.length I cI v vals w) : BkW (fun q => w0.heap.size ≤ q ∧ q < w.heap.size) b its (rows0 its) w := by
  have hF : ∀ {A xs}, RowF w (fun q => w0.heap.size ≤ q ∧ q ≠ b ∧ v.ownBlock ≠ some q) A xs → RowF w (fun q => (w0.heap.size ≤ q ∧ q < w.heap.size) ∧ q ≠ b ∧ v.ownBlock ≠ some q) A xs := fun hr => hr.weak fun q hq hl => ⟨⟨hq.1, hl⟩, hq.2⟩
  refine ⟨I, cI, v, vals, fun k hk => hk.2, h.bx, ⟨h.b0, h.bx.lt⟩, hF h.items, ⟨h.own.1, h.own.2.imp id fun ⟨g, cap, cur, e, hb, r⟩ => ⟨g, cap, cur, e, Nat.zero_le _, r⟩⟩, fun q e => h.own.lt q e, fun i hi => ?_⟩
  obtain ⟨A, c, h1, h2, h3⟩ := h.row i hi
  rw [rowAt0 hi]
  exact ⟨A, c, h1, h2, hF (by simpa [pcells, pcell] using h3)⟩
set_option maxHeartbeats 2000000 in
set_option maxRecDepth 100000 in
theorem new_ok (A : Option Addr) (its : List It) (c : Nat) (w : World) (hr : Row w 0 A (icells its)) (hE : newE its = 0) :
    Calls Try.prog 7 #[.slice A its.length c] w (NewRet its w) := by
  unfold newE at hE
  have h1 : ¬ 40 < its.length := fun h => by rw [if_pos h] at hE; omega
  rw [if_neg h1] at hE
  have h2 : anyW its = false := by
    cases h : anyW its with
    | false => rfl
    | true => rw [h] at hE; simp at hE
  have HC := Lib.hid (contains_any A its c w hr (by omega) false h2)
  have HCL := Lib.hid (fun w1 (h : Row w1 0 A (icells its)) => clone_any A its c w1 h (by omega))
  have HR := Lib.hid hr
  obtain ⟨n, hn⟩ : ∃ n, its.length = n := ⟨_, rfl⟩
  have HN := Lib.hid hn
  rw [hn] at h1 HC HCL ⊢
  have h3 : decide ((40 : Int) < (n : Int)) = false := by simp; omega
  clear hr hE h2 hn
  go_enter Try.func7, Try.ntmps7
  go_wp2_with fail
  refine HC.out.mono ?_
  rintro e w1 ⟨rfl, hb⟩
  have HB := Lib.hid hb
  clear hb
  go_wp2_with fail
  refine (HCL.out _ (HR.out.below HB.out)).mono ?_
  rintro e w2 ⟨I, cI, rfl, hi, hci, hb⟩
  have HB2 := Lib.hid (HB.out.trans (hb.mono HB.out.size))
  have HI := Lib.hid (hi.rowF (F := fun q => w.heap.size ≤ q) fun q hq _ => Nat.le_trans HB.out.size hq)
  rw [HN.out] at hci
  clear hb hi
  rw [HN.out]
  go_wp2_with fail
  have hst : NewI w w2.heap.size its 0 I cI (.slice none 0 0) [] (w2.alloc (.cells #[.slice I n cI, .slice none 0 0] 56)) := by
    refine ⟨HB2.out.alloc HB2.out.size _, HB2.out.size, by rw [HN.out]; exact Blk.new _ _ _, ?_, World.ownsRow_nil _ _ _ _, fun i hi => by omega⟩
    exact (HI.out.weak (G := fun q => w.heap.size ≤ q ∧ q ≠ w2.heap.size ∧ (Value.slice none 0 0).ownBlock ≠ some q) fun q hq hl => ⟨hq, by omega, fun e => by cases e⟩).below (alloc1 _ _)
  have HST := Lib.hid hst
  clear hst
  generalize w2.alloc (Obj.cells #[Value.slice I n cI, Value.slice none 0 0] 56) = wo at HST ⊢
  generalize w2.heap.size = b at HST ⊢
  clear HI
  go_loopw [20] (fun i wr => ∃ (k : Nat) (v : Value) (vals : List Value), i = .int .i64 (k : Int) ∧ k ≤ n ∧ NewI w b its k I cI v vals wr) (fun i _ => n - (intOf i).toNat)
  case atStart => exact ⟨0, _, _, rfl, by omega, HST.out⟩
  case round =>
    clear HST
    obtain ⟨k, v, vals, rfl, hk, hnew⟩ := hrel
    have HNI := Lib.hid hnew
    clear hnew
    have g0 : (0 : Int) ≤ (k : Int) := Int.natCast_nonneg _
    by_cases hkn : k < n
    · have g1 : (k : Int) < (n : Int) := by omega
      obtain ⟨ad, rfl, c0, c1, c2, c3⟩ := i_cells (HR.out.below HNI.out.be) (j := k) (by rw [HN.out]; exact hkn)
      obtain ⟨it, hit⟩ : ∃ it, itAt its k = it := ⟨_, rfl⟩
      rw [hit] at c0 c1 c2 c3
      have HIT := Lib.hid hit
      clear hit
      obtain ⟨t1, t2, t3, t4⟩ := it
      dsimp only at c0 c1 c2 c3
      have hb1 : (k + 1) * 24 ≤ 140737488355328 := by omega
      have hb2 : k + 1 ≤ maxLen := by unfold maxLen; omega
      go_wp2_with fail
      have HNJ := Lib.hid (HNI.out.later (alloc1 wr (.cells #[.int .i64 t1, .int .i64 t2, .int .i64 t3, .int .i64 t4] 50)))
      have hbk := Blk.new wr 50 #[.int .i64 t1, .int .i64 t2, .int .i64 t3, .int .i64 t4]
      generalize wr.alloc (Obj.cells #[.int .i64 t1, .int .i64 t2, .int .i64 t3, .int .i64 t4] 50) = wz at HNJ hbk ⊢
      have e3 : wz.cell? ⟨wr.heap.size, 3, none⟩ = some (.int .i64 t4) := hbk.cell 3
      have e1 : wz.cell? ⟨b, 1, none⟩ = some v := HNJ.out.bx.cell 1
      have hbs : b < wz.heap.size := HNJ.out.bx.lt
      clear hbk c0 c1 c2 c3 HNI
      have hwb : Below wz.heap.size wz ((wz.alloc (.cells #[.int .i64 0, .int .i64 t4] 58)).alloc (.cells #[.slice (some ⟨wz.heap.size, 0, none⟩) 1 1] 59)) := (alloc1 wz _).alloc (by simp) _
      have hk1 : Blk ((wz.alloc (.cells #[.int .i64 0, .int .i64 t4] 58)).alloc (.cells #[.slice (some ⟨wz.heap.size, 0, none⟩) 1 1] 59)) wz.heap.size 58 #[.int .i64 0, .int .i64 t4] := (Blk.new wz _ _).alloc _
      have hk2 : Blk ((wz.alloc (.cells #[.int .i64 0, .int .i64 t4] 58)).alloc (.cells #[.slice (some ⟨wz.heap.size, 0, none⟩) 1 1] 59)) (wz.heap.size + 1) 59 #[.slice (some ⟨wz.heap.size, 0, none⟩) 1 1] := by
        have := Blk.new (wz.alloc (.cells #[.int .i64 0, .int .i64 t4] 58)) 59 #[.slice (some ⟨wz.heap.size, 0, none⟩) 1 1]
        simpa using this
      have hws : ((wz.alloc (.cells #[.int .i64 0, .int .i64 t4] 58)).alloc (.cells #[.slice (some ⟨wz.heap.size, 0, none⟩) 1 1] 59)).heap.size = wz.heap.size + 2 := by simp
      have HWB := Lib.hid (HNJ.out.later hwb)
      have HK1 := Lib.hid hk1
      have HK2 := Lib.hid hk2
      have HWS := Lib.hid hws
      have hvz : v.ownBlock ≠ some wz.heap.size := fun e => by have := (HNJ.out.own.lt _ e).2; omega
      clear hwb hk1 hk2 hws
      go_region_law (refine step_app E_prs rfl (.tmp 28) (.tmp 33) rfl rfl (w := World.drew _) (World.ownsRow.drew HWB.out.own) ⟨wz.heap.size + 1, 0, none⟩ 1 1 [.slice (some ⟨wz.heap.size, 0, none⟩) 1 1] rfl rfl (fun j u hu => by rw [addr_add, Nat.zero_add]; exact (HK2.out.drew.cell j).trans (by simpa using hu)) (by simp [Value.oneCell']) hb1 hb2 (Nat.le_trans HWB.out.be.size (Nat.le_refl _)) (by decide) (wz.heap.size + 2) HWS.out ?_; intro g cap w3 hown hg hat hlt; have HO3 := Lib.hid hown; have HG3 := Lib.hid hg; have HA3 := Lib.hid hat; have hbx3 := HWB.out.bx.drew.grown hg (own_box HWB.out.own HWB.out.bx (by decide)); have d1 := hbx3.frozen 1; have d2 : w3.cell? ⟨b, 1, none⟩ = some v := hbx3.cell 1; clear hown hg hat hlt hbx3)
      all_goals
        go_wp2_with fail
        go_roundw
        case rel => exact ⟨k + 1, _, _, by go_num, by omega, (HWB.out.later (Below.drew (Below.refl _ _))).step (q0 := wz.heap.size) (by rw [HIT.out]; exact HK1.out.drew) hbs hvz HO3.out HG3.out (HA3.out.imp id fun e => e.trans HWS.out.symm)⟩
        case measure => simp only [intOf]; omega
    · obtain rfl : k = n := by omega
      have hd := HNI.out
      have hbe := hd.be
      rw [← HN.out] at hd
      have HD := Lib.hid hd.done
      have HBE := Lib.hid hbe
      clear hd hbe
      go_wp2_with fail
      go_ret2
      exact ⟨_, b, rfl, HD.out, HBE.out, fun q hq => hq.1⟩
end Go.Proofs.Ytbdhbongaikphaa.BK
