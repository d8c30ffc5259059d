/- The walk of the law RecordBack. -/
import Derived.Test.YtjiphalannmcnaaDoorRecF
namespace Go.Proofs.YtjiphalannmcnaaDoor.REC
open Go.RowKit
set_option linter.unusedVariables false
set_option linter.unusedSimpArgs false

theorem SRow.tail {w : World} {g : Nat} {xs : List ByteArray} (h : SRow w g xs) : Row w 0 (some ⟨g, 1, none⟩) (strsR (xs.drop 1)) := fun hn => by
  refine ⟨_, rfl, Nat.zero_le _, fun j u hu => ?_⟩
  simp only [strsR, List.getElem?_map, Option.map_eq_some_iff, List.getElem?_drop] at hu
  obtain ⟨x, hx, rfl⟩ := hu
  rw [addr_add]
  have := h.2 (1 + j) x hx
  rwa [Nat.zero_add] at this
theorem row_nil (w : World) (A : Option Addr) : Row w 0 A (strsR []) := fun h => absurd h (by simp [strsR])
set_option maxHeartbeats 1000000 in
set_option maxRecDepth 100000 in
theorem back_large (s : ByteArray) (w : World) (h : 3000 < s.size) :
    Calls Tryd.prog 4 #[.string s] w fun e w' => e = .returned (.bool true) ∧ Below w.heap.size w w' := by
  have h2 : (3000 : Int) < (s.size : Int) := by omega
  clear h
  go_enter Tryd.func4, Tryd.ntmps4
  go_wp2_with fail
  refine (awake06 _).mono ?_
  rintro e w1 ⟨rfl, hb⟩
  have HB := Lib.hid hb
  clear hb
  go_wp2_with fail
  go_ret
  exact ⟨rfl, HB.out⟩
set_option maxHeartbeats 4000000 in
set_option maxRecDepth 100000 in
theorem back_go (s : ByteArray) (w : World) (h : s.size ≤ 3000) :
    Calls Tryd.prog 4 #[.string s] w fun e w' => e = .returned (.bool true) ∧ Below w.heap.size w w' := by
  have HLT := Lib.hid (fun w => lay_any s true w h)
  have HLF := Lib.hid (fun w => lay_any s false w h)
  have hsl : s.data.toList.length = s.size := by simp
  obtain ⟨j1, j2⟩ := join_lay (l := s.data.toList) (by omega)
  have j3 := join_plain (l := s.data.toList) (by omega)
  have j2' : jnS (layL true s.data.toList) = s := j2
  have hm1 := (many_room s.size).2
  have hm2 : many s.size ≤ 48 := by unfold many; omega
  have HBL := Lib.hid (fun w => blocks_any (s.size : Int) w (many s.size : Int) (by unfold blkN many; rw [if_neg (by omega)]; omega))
  have ht1 := layL_len true s.data.toList
  have ht2 := layL_len false s.data.toList
  rw [hsl] at ht1 ht2
  have e1 : hd0 (layL true s.data.toList) = blkAt (allB true s.data.toList) 0 := hd0_blk (by rw [hsl]; exact hm1)
  have e2 : hd0 (layL false s.data.toList) = blkAt (allB false s.data.toList) 0 := hd0_blk (by rw [hsl]; exact hm1)
  have HTL := Lib.hid (lay_tail s.data.toList)
  have f1 : (blkAt (allB true s.data.toList) 0).extract 0 1 = ⟨#[1]⟩ := blk_first true s.data.toList
  have f2 : (blkAt (allB false s.data.toList) 0).extract 0 1 = ⟨#[0]⟩ := blk_first false s.data.toList
  have f3 := blk_rest s.data.toList
  have f4 : (blkAt (allB true s.data.toList) 0).size = 64 := blk_size (allB_len true s.data.toList) (by rw [hsl]; exact hm1)
  have f5 : (blkAt (allB false s.data.toList) 0).size = 64 := blk_size (allB_len false s.data.toList) (by rw [hsl]; exact hm1)
  rw [← e1] at f1 f4
  rw [← e2] at f2 f5
  rw [← e1, ← e2] at f3
  have h3 : ¬ (3000 : Int) < (s.size : Int) := by omega
  generalize layL true s.data.toList = L at *
  generalize layL false s.data.toList = M at *
  obtain ⟨K, hK⟩ : ∃ K, many s.size = K := ⟨_, rfl⟩
  rw [hK] at HLT HLF HBL ht1 ht2 hm1 hm2
  have HT1 := Lib.hid ht1
  have HT2 := Lib.hid ht2
  have HJ1 := Lib.hid j1
  have HJ2 := Lib.hid j2'
  have HJ3 := Lib.hid j3
  obtain ⟨b1, hb1⟩ : ∃ b, hd0 L = b := ⟨_, rfl⟩
  obtain ⟨b2, hb2⟩ : ∃ b, hd0 M = b := ⟨_, rfl⟩
  rw [hb1] at f1 f3 f4
  rw [hb2] at f2 f3 f5
  have HD1 := Lib.hid hb1
  have HD2 := Lib.hid hb2
  obtain ⟨r, hr⟩ : ∃ r, b1.extract 1 64 = r := ⟨_, rfl⟩
  rw [hr] at f3
  have f6 : b2.extract 1 64 = r := f3.symm
  clear e1 e2 hK ht1 ht2 j1 j2 j2' j3 hb1 hb2 f3 hsl h
  go_enter Tryd.func4, Tryd.ntmps4
  go_wp2_with fail
  refine (awake06 _).mono ?_
  rintro e w0 ⟨rfl, hb⟩
  have HB0 := Lib.hid hb
  clear hb
  go_wp2_with fail
  refine (HLT.out _).mono ?_
  rintro e w1 ⟨A1, c1, rfl, ho1, hb1⟩
  have HB1 := Lib.hid (HB0.out.trans (hb1.mono HB0.out.size))
  obtain ⟨g1, rfl, _, hc1, hs1⟩ := own_srow ho1 hm1
  have HS1 := Lib.hid hs1
  clear ho1 hb1 hs1
  go_wp2_with fail
  refine (HLF.out _).mono ?_
  rintro e w2 ⟨A2, c2, rfl, ho2, hb2⟩
  have HB2 := Lib.hid (HB1.out.trans (hb2.mono HB1.out.size))
  obtain ⟨g2, rfl, _, hc2, hs2⟩ := own_srow ho2 hm1
  have HS2 := Lib.hid hs2
  have HS1 := Lib.hid (HS1.out.later hb2)
  have k0 : ((K : Int) == 0) = false := by simpa using (show ¬ (K : Int) = 0 by omega)
  have k1 : ¬ (K : Int) = 0 := by omega
  have k2 : ¬ K = 0 := by omega
  clear ho2 hb2 hs2
  go_wp2_with fail
  refine (HBL.out _).mono ?_
  rintro e w3 ⟨rfl, rfl⟩
  have hj := join_any L g1 0 c1 w2 HS1.out.2 HS1.out.1 (by rw [HT1.out]; exact hc1) (by rw [HT1.out]; omega)
  rw [HT1.out, HJ1.out, HJ2.out] at hj
  have HJL := Lib.hid hj
  clear hj
  go_wp2_with fail
  refine HJL.out.mono ?_
  rintro e w4 ⟨rfl, hb4⟩
  have HB4 := Lib.hid (HB2.out.trans (hb4.mono HB2.out.size))
  have HS1 := Lib.hid (HS1.out.later hb4)
  have HS2 := Lib.hid (HS2.out.later hb4)
  have hj := join_any M g2 0 c2 w4 HS2.out.2 HS2.out.1 (by rw [HT2.out]; exact hc2) (by rw [HT2.out]; omega)
  rw [HT2.out, HJ3.out] at hj
  obtain ⟨js, hjs⟩ : ∃ z, jnS M = z := ⟨_, rfl⟩
  rw [hjs] at hj
  have HJM := Lib.hid hj
  clear hj hb4 hjs
  go_wp2_with fail
  refine HJM.out.mono ?_
  rintro e w5 ⟨rfl, hb5⟩
  have HB5 := Lib.hid (HB4.out.trans (hb5.mono HB4.out.size))
  have hs1 := HS1.out.later hb5
  have hs2 := HS2.out.later hb5
  have x1 : w5.cell? ⟨g1, 0, none⟩ = some (.string b1) := by
    rw [← HD1.out]
    exact hs1.2 0 _ (hd0_get (by rw [HT1.out]; exact hm1))
  have x2 : w5.cell? ⟨g2, 0, none⟩ = some (.string b2) := by
    rw [← HD2.out]
    exact hs2.2 0 _ (hd0_get (by rw [HT2.out]; exact hm1))
  have r1 := hs1.tail
  have r2 := hs2.tail
  rw [← HTL.out] at r2
  have hln : (L.drop 1).length = K - 1 := by rw [List.length_drop, HT1.out]
  have k3 : (1 : Int) ≤ (K : Int) := by omega
  have k4 : 1 ≤ K := hm1
  have k5 : 0 < K := hm1
  have k6 : (0 : Int) < (K : Int) := by omega
  have HSM := Lib.hid (fun A B ca cb q (hA : Row w5 0 A (strsR (L.drop 1))) (hB : Row w5 0 B (strsR (L.drop 1))) => same_eq A B (L.drop 1) (K - 1) ca cb (w5.drewN q) (hA.drewN q) (hB.drewN q) hln (by omega))
  have R1 := Lib.hid r1
  have R2 := Lib.hid r2
  have HK1 := Lib.hid (fun (h : K = 1) => (show L.drop 1 = [] from List.eq_nil_of_length_eq_zero (by rw [hln]; omega)))
  have HHC1 := Lib.hid hc1
  have HHC2 := Lib.hid hc2
  clear hb5 hs1 hs2 r1 r2 hln
  by_cases hc1 : c1 = 1
  · have R1 := Lib.hid (show Row w5 0 (some ⟨g1, 0, none⟩) (strsR (L.drop 1)) by rw [HK1.out (by have := HHC1.out; omega)]; exact row_nil _ _)
    by_cases hc2 : c2 = 1
    · have R2 := Lib.hid (show Row w5 0 (some ⟨g2, 0, none⟩) (strsR (L.drop 1)) by rw [HK1.out (by have := HHC1.out; omega)]; exact row_nil _ _)
      go_wp2_with fail
      go_quiet ((go_at_call 16; exact Calls.quiet_of (HSM.out _ _ _ _ _ R1.out R2.out)))
      go_wp2_with fail
      go_ret
      exact ⟨rfl, blw_drewN HB5.out _⟩
    · go_wp2_with fail
      go_quiet ((go_at_call 16; exact Calls.quiet_of (HSM.out _ _ _ _ _ R1.out R2.out)))
      go_wp2_with fail
      go_ret
      exact ⟨rfl, blw_drewN HB5.out _⟩
  · by_cases hc2 : c2 = 1
    · have R2 := Lib.hid (show Row w5 0 (some ⟨g2, 0, none⟩) (strsR (L.drop 1)) by rw [HK1.out (by have := HHC2.out; omega)]; exact row_nil _ _)
      go_wp2_with fail
      go_quiet ((go_at_call 16; exact Calls.quiet_of (HSM.out _ _ _ _ _ R1.out R2.out)))
      go_wp2_with fail
      go_ret
      exact ⟨rfl, blw_drewN HB5.out _⟩
    · go_wp2_with fail
      go_quiet ((go_at_call 16; exact Calls.quiet_of (HSM.out _ _ _ _ _ R1.out R2.out)))
      go_wp2_with fail
      go_ret
      exact ⟨rfl, blw_drewN HB5.out _⟩
theorem back_walk (s : ByteArray) (w : World) :
    Calls Tryd.prog 4 #[.string s] w fun e w' => e = .returned (.bool true) ∧ Below w.heap.size w w' := by
  by_cases h : 3000 < s.size
  · exact back_large s w h
  · exact back_go s w (by omega)
end Go.Proofs.YtjiphalannmcnaaDoor.REC
