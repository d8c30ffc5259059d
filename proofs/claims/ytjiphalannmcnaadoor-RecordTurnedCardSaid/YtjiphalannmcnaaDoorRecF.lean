/- The walk of awake; a record's blocks as they lie. -/
import Derived.Test.YtjiphalannmcnaaDoorRecE
import Derived.Test.YtjiphalannmcnaaDoorRecM4
import Derived.Test.YtjiphalannmcnaaDoorRecC
namespace Go.Proofs.YtjiphalannmcnaaDoor.REC
open Go.RowKit
set_option linter.unusedVariables false
set_option linter.unusedSimpArgs false

/-- Strings in a row. -/
def SRow (w : World) (g : Nat) (xs : List ByteArray) : Prop := g < w.heap.size ∧ ∀ j x, xs[j]? = some x → w.cell? ⟨g, 0 + j, none⟩ = some (.string x)
theorem SRow.later {w w' : World} {g : Nat} {xs : List ByteArray} (h : SRow w g xs) (hb : Below w.heap.size w w') : SRow w' g xs :=
  ⟨Nat.lt_of_lt_of_le h.1 hb.size, fun j x hx => (hb.cell (p := ⟨g, 0 + j, none⟩) h.1).trans (h.2 j x hx)⟩
theorem own_srow {w : World} {base K c : Nat} {A : Option Addr} {xs : List ByteArray} (h : w.ownsRow base 9 1 (.slice A K c) K (strsR xs)) (h1 : 1 ≤ K) : ∃ g, A = some ⟨g, 0, none⟩ ∧ base ≤ g ∧ K ≤ c ∧ SRow w g xs := by
  obtain ⟨_, _, e, hle⟩ := own_sl h
  have hKc : K ≤ c := by
    injection e with _ _ e
    rw [e]; exact hle
  obtain ⟨g, cap, hv, hg, hc⟩ := h.form (by omega)
  injection hv with e1 _ e3
  subst e1
  subst e3
  refine ⟨g, rfl, hg, hKc, (h.lt g rfl).2, fun j x hx => ?_⟩
  have := h.cells (g := g) rfl j (.string x) (by simp [strsR, hx])
  rwa [addr_add] at this
theorem SRow.row {w : World} {g : Nat} {xs : List ByteArray} (h : SRow w g xs) : Row w 0 (some ⟨g, 0, none⟩) (strsR xs) := fun hn => by
  refine ⟨_, rfl, Nat.zero_le _, fun j u hu => ?_⟩
  simp only [strsR, List.getElem?_map, Option.map_eq_some_iff] at hu
  obtain ⟨x, hx, rfl⟩ := hu
  rw [addr_add]
  exact h.2 j x hx
def ab : ByteArray := ⟨#[97, 98]⟩
theorem many_ab : many ab.size = 1 := by decide
theorem abT : (layL true ab.data.toList).length = 1 ∧ jnE (layL true ab.data.toList) = 0 ∧ jnS (layL true ab.data.toList) = ab := by
  obtain ⟨h1, h2⟩ := join_lay (l := ab.data.toList) (by decide)
  exact ⟨by rw [layL_len]; decide, h1, h2⟩
theorem ab_head (m : Bool) : hd0 (layL m ab.data.toList) = blkAt (allB m ab.data.toList) 0 ∧ (hd0 (layL m ab.data.toList)).size = 64 ∧ hdE (hd0 (layL m ab.data.toList)) = 0 ∧ hdB (hd0 (layL m ab.data.toList)) = m ∧ (m = true → hdN (hd0 (layL m ab.data.toList)) = 2) := by
  obtain ⟨h1, h2, h3⟩ := lay_head m (l := ab.data.toList) (by decide)
  refine ⟨hd0_blk (by decide), h1, ?_⟩
  cases m with
  | false =>
    obtain ⟨g1, _, g3⟩ := hd_zero h1 h2
    exact ⟨g3, g1, fun c => by cases c⟩
  | true =>
    have h3' : bAt (hd0 (layL true ab.data.toList)) 1 * 256 + bAt (hd0 (layL true ab.data.toList)) 2 = 2 := h3
    obtain ⟨g1, g2, g3⟩ := hd_good h1 h2 (by omega)
    exact ⟨g3, g1, fun _ => by rw [g2, h3']; rfl⟩
theorem hd0_get {xs : List ByteArray} (h : 1 ≤ xs.length) : xs[0]? = some (hd0 xs) := by
  unfold hd0
  cases xs with
  | nil => simp at h
  | cons x xs => rfl
set_option maxHeartbeats 2000000 in
set_option maxRecDepth 100000 in
theorem awake06 (w : World) : Calls Tryd.prog 6 #[] w fun e w' => e = .returned (.bool true) ∧ Below w.heap.size w w' := by
  have HLT := Lib.hid (fun w => lay_any ab true w (by decide))
  have HLF := Lib.hid (fun w => lay_any ab false w (by decide))
  rw [many_ab] at HLT HLF
  have HT := Lib.hid (ab_head true)
  have HF := Lib.hid (ab_head false)
  have HJT := Lib.hid abT
  have HLL := Lib.hid (show (layL false ab.data.toList).length = 1 by rw [layL_len]; decide)
  have HCK := Lib.hid (fun w => check_any ⟨#[49, 50, 51, 52, 53, 54, 55, 56, 57]⟩ w (by decide))
  rw [show (chk (⟨#[49, 50, 51, 52, 53, 54, 55, 56, 57]⟩ : ByteArray).data.toList).toNat = 3421780262 by decide +kernel] at HCK
  have HB57 := Lib.hid (fun w => blocks_any 57 w 1 (by decide))
  have HB58 := Lib.hid (fun w => blocks_any 58 w 2 (by decide))
  have HAB := Lib.hid (show ab.data.toList = [97, 98] from rfl)
  have HABE := Lib.hid (show ab = ⟨#[97, 98]⟩ from rfl)
  obtain ⟨LT, hLT⟩ : ∃ L, layL true ab.data.toList = L := ⟨_, rfl⟩
  obtain ⟨LF, hLF⟩ : ∃ L, layL false ab.data.toList = L := ⟨_, rfl⟩
  rw [hLT] at HLT HT HJT
  rw [hLF] at HLF HF HLL
  clear hLT hLF
  have HH1 := Lib.hid (fun w => head_any (hd0 LT) w true 2 0 ⟨HT.out.2.2.2.1, HT.out.2.2.2.2 rfl, HT.out.2.2.1⟩)
  obtain ⟨nf, hnf⟩ : ∃ n, hdN (hd0 LF) = n := ⟨_, rfl⟩
  have HH2 := Lib.hid (fun w => head_any (hd0 LF) w false nf 0 ⟨HF.out.2.2.2.1, hnf, HF.out.2.2.1⟩)
  clear hnf
  rw [HABE.out] at HLT HLF HJT
  go_enter Tryd.func6, Tryd.ntmps6
  go_wp2_with fail
  refine (HLT.out _).mono ?_
  rintro e w1 ⟨A1, c1, rfl, ho1, hb1⟩
  have HB1 := Lib.hid hb1
  obtain ⟨g1, rfl, _, hc1, hs1⟩ := own_srow ho1 (by decide)
  have HS1 := Lib.hid hs1
  clear ho1 hb1 hs1
  go_wp2_with fail
  refine (HLF.out _).mono ?_
  rintro e w2 ⟨A2, c2, rfl, ho2, hb2⟩
  have HB2 := Lib.hid (HB1.out.trans (hb2.mono HB1.out.size))
  obtain ⟨g2, rfl, _, hc2, hs2⟩ := own_srow ho2 (by decide)
  have hs1 := HS1.out.later hb2
  have HS2 := Lib.hid hs2
  have HS1 := Lib.hid hs1
  have x1 : w2.cell? ⟨g1, 0, none⟩ = some (.string (hd0 LT)) := hs1.2 0 _ (hd0_get (by rw [HJT.out.1]; exact Nat.le_refl _))
  have x2 : w2.cell? ⟨g2, 0, none⟩ = some (.string (hd0 LF)) := hs2.2 0 _ (hd0_get (by rw [HLL.out]; exact Nat.le_refl _))
  have y1 := HT.out.2.1
  have y2 := HF.out.2.1
  obtain ⟨b1, hb1⟩ : ∃ b, hd0 LT = b := ⟨_, rfl⟩
  obtain ⟨b2, hb2'⟩ : ∃ b, hd0 LF = b := ⟨_, rfl⟩
  rw [hb1] at x1 y1 HH1
  rw [hb2'] at x2 y2 HH2
  clear ho2 hb2 hs1 hs2 hb1 hb2'
  go_wp2_with fail
  refine (HH1.out _).mono ?_
  rintro e w3 ⟨rfl, hb3⟩
  have HB3 := Lib.hid (HB2.out.trans (hb3.mono HB2.out.size))
  have HS1 := Lib.hid (HS1.out.later hb3)
  have x2' := cell_below' hb3 x2
  clear hb3 x1 x2
  go_wp2_with fail
  refine (HH2.out _).mono ?_
  rintro e w4 ⟨rfl, hb4⟩
  have HB4 := Lib.hid (HB3.out.trans (hb4.mono HB3.out.size))
  have hs1 := HS1.out.later hb4
  have hj := join_any LT g1 0 c1 w4 hs1.2 hs1.1 (by rw [HJT.out.1]; exact hc1) (by rw [HJT.out.1]; omega)
  rw [HJT.out.1, HJT.out.2.1, HJT.out.2.2] at hj
  have HJ := Lib.hid hj
  clear hb4 hs1 x2' hj
  go_wp2_with fail
  refine HJ.out.mono ?_
  rintro e w5 ⟨rfl, hb5⟩
  have HB5 := Lib.hid (HB4.out.trans (hb5.mono HB4.out.size))
  clear hb5
  go_wp2_with fail
  refine (join_none _ _ _).mono ?_
  rintro e w6 ⟨rfl, rfl⟩
  go_wp2_with fail
  refine (HCK.out _).mono ?_
  rintro e w7 ⟨rfl, hb7⟩
  have HB7 := Lib.hid (HB5.out.trans (hb7.mono HB5.out.size))
  clear hb7
  go_wp2_with fail
  refine (HB57.out _).mono ?_
  rintro e w8 ⟨rfl, rfl⟩
  go_wp2_with fail
  refine (HB58.out _).mono ?_
  rintro e w9 ⟨rfl, rfl⟩
  go_wp2_with fail
  go_ret
  exact ⟨rfl, HB7.out⟩
end Go.Proofs.YtjiphalannmcnaaDoor.REC
