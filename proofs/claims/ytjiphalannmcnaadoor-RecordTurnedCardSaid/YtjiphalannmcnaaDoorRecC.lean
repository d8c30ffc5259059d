/- The walk of record's Lay. -/
import Derived.Test.YtjiphalannmcnaaDoorRecM2
namespace Go.Proofs.YtjiphalannmcnaaDoor.REC
open Go.RowKit
set_option linter.unusedVariables false
set_option linter.unusedSimpArgs false

theorem info_u8 : (Tryd.prog.info? 5).map (fun i => (i.zero, i.size, i.bytes)) = some (some (.int .u8 0), 1, 1) := by kernel_rfl
theorem info_str : (Tryd.prog.info? 9).map (fun i => (i.zero, i.size, i.bytes)) = some (some (.string ByteArray.empty), 1, 16) := by kernel_rfl
theorem E_str : ElemT Tryd.prog 22 9 1 16 := .mk' Tryd.underlying22 info_str rfl (by decide)
set_option maxHeartbeats 2000000 in
set_option maxRecDepth 100000 in
theorem lay_any (s : ByteArray) (m : Bool) (w : World) (hs : s.size ≤ 3000) :
    Calls Tryd.prog 8 #[.string s, .bool m] w fun e w' => ∃ A c, e = .returned (.tuple #[.slice A (many s.size) c, .int .i64 0]) ∧ w'.ownsRow w.heap.size 9 1 (.slice A (many s.size) c) (many s.size) (strsR (layL m s.data.toList)) ∧ Below w.heap.size w w' := by
  have HBL := Lib.hid (fun w => blocks_any (s.size : Int) w (many s.size : Int) (by unfold blkN many; rw [if_neg (by omega)]; omega))
  have HCH := Lib.hid (fun w => check_any s w (by omega))
  have hm0 : ¬ ((many s.size : Int) = 0) := by have := many_room s.size; omega
  have hm1 : ((many s.size : Int) == 0) = false := by simpa using hm0
  obtain ⟨K, hK⟩ : ∃ K, many s.size = K := ⟨_, rfl⟩
  rw [hK] at HBL hm0 hm1
  obtain ⟨C, hC⟩ : ∃ C, (chk s.data.toList).toNat = C := ⟨_, rfl⟩
  rw [hC] at HCH
  go_enter Tryd.func8, Tryd.ntmps8
  go_wp2_with fail
  refine (HBL.out _).mono ?_
  rintro e w1 ⟨rfl, rfl⟩
  go_wp2_with fail
  refine (HCH.out _).mono ?_
  rintro e w1 ⟨rfl, hb1⟩
  have HB1 := Lib.hid hb1
  clear hb1
  have hs256 := hs
  have HO1 := Lib.hid (own_new (w := w1) (e := 5) (n := 7) HB1.out.size (head_cells (l := s.data.toList) (n := s.size) (by simp) hC hs) (by rw [bcs_len]; rfl) (by unfold maxLen; omega))
  have HB2 := Lib.hid (HB1.out.alloc HB1.out.size (.cells #[Value.int .u8 0, .int .u8 ((s.size : Int) / 256), .int .u8 ((s.size : Int) % 256), .int .u8 ((C : Int) / 16777216), .int .u8 ((C : Int) / 65536 % 256), .int .u8 ((C : Int) / 256 % 256), .int .u8 ((C : Int) % 256)] 5))
  have HQ := Lib.hid (Blk.new w1 5 #[Value.int .u8 0, .int .u8 ((s.size : Int) / 256), .int .u8 ((s.size : Int) % 256), .int .u8 ((C : Int) / 16777216), .int .u8 ((C : Int) / 65536 % 256), .int .u8 ((C : Int) / 256 % 256), .int .u8 ((C : Int) % 256)])
  go_upto_if 37 with fail
  obtain ⟨w2, hw2⟩ : ∃ w2, w1.alloc (.cells #[Value.int .u8 0, .int .u8 ((s.size : Int) / 256), .int .u8 ((s.size : Int) % 256), .int .u8 ((C : Int) / 16777216), .int .u8 ((C : Int) / 65536 % 256), .int .u8 ((C : Int) / 256 % 256), .int .u8 ((C : Int) % 256)] 5) = w2 := ⟨_, rfl⟩
  rw [hw2] at HO1 HB2 HQ ⊢
  go_cut [] (fun wx => wx.ownsRow w.heap.size 5 1 (.slice (some ⟨w1.heap.size, 0, none⟩) 7 7) 7 (bcs (head7 m s.data.toList)) ∧ Below w.heap.size w wx)
  case first =>
    cases m with
    | false =>
      go_wp2_with fail
      go_meet
      case rel => exact ⟨HO1.out, HB2.out⟩
    | true =>
      have q0 : w2.cell? ⟨w1.heap.size, 0, none⟩ = some (.int .u8 0) := HQ.out.cell 0
      have q1 := HQ.out.frozen 0
      have HO3 := Lib.hid (own_put1 HO1.out 0 (.int .u8 1))
      rw [head_mark] at HO3
      have HB3 := Lib.hid (HB2.out.setCell (p := ⟨w1.heap.size, 0, none⟩) HB1.out.size (.int .u8 1))
      go_wp2_with fail
      go_meet
      case rel => exact ⟨HO3.out, HB3.out⟩
  case rest =>
    obtain ⟨ho, hb⟩ := hcut
    obtain ⟨w3, rfl⟩ : ∃ w3 : World, w3 = wc := ⟨_, rfl⟩
    have HO3 := Lib.hid ho
    have HB3 := Lib.hid hb
    clear ho hb HO1 HB2 HQ hw2
    obtain ⟨i8, hi1, hi2, hi3, hi4⟩ := info_parts info_u8
    obtain ⟨N2, hN2⟩ : ∃ N2, 7 + s.size = N2 := ⟨_, rfl⟩
    obtain ⟨Z, hZ⟩ : ∃ Z, K * 64 - N2 = Z := ⟨_, rfl⟩
    obtain ⟨N3, hN3⟩ : ∃ N3, N2 + Z = N3 := ⟨_, rfl⟩
    have hroom := (many_room s.size).1
    rw [hK] at hroom
    have hKs : K ≤ 48 := by unfold many at hK; omega
    have hKK : N3 = K * 64 := by omega
    have z1 : IntKind.i64.wrap ((K : Int) * 64) = (K : Int) * 64 := IntWalk.i64_in _ (by omega)
    have z2 : IntKind.i64.wrap ((K : Int) * 64 - (N2 : Int)) = (Z : Int) := by rw [IntWalk.i64_in _ (by omega)]; omega
    have hbig : 7 + s.size ≤ 140737488355328 := by omega
    have hbm : 7 + s.size ≤ maxLen := by unfold maxLen; omega
    have hbig2 : N2 + Z ≤ 140737488355328 := by omega
    have hsz3 := HB3.out.size
    go_wp2_with (at_builtin; first
      | (refine Lib.wpList_append_own_string _ rfl (.tmp 40) (.tmp 41) 39 9 rfl w.heap.size 5 i8 Tryd.underlying39 Tryd.underlying9 hi1 hi2 hi3 hi4 _ 7 _ rfl HO3.out s rfl hbm hbig hsz3 ?_; intro v4 w4 ho4 hg4 _; have HB4 := Lib.hid (HB3.out.grown hg4 HB3.out.size (fun q hq => (HO3.out.lt q hq).1)); obtain ⟨B4, c4, hv4, _⟩ := own_sl ho4; subst hv4; rw [hN2] at ho4 ⊢; have HO4 := Lib.hid ho4; clear ho4 hg4)
      | (refine wpList_own_zeros rfl (.tmp 43) (.tmp 48) 39 3 9 rfl w.heap.size 5 i8 Tryd.underlying39 Tryd.underlying3 Tryd.underlying9 hi1 hi2 hi3 hi4 _ N2 _ Z _ rfl HO4.out rfl hbig2 HB4.out.size ?_; intro v5 w5 ho5 hg5; have HB5 := Lib.hid (HB4.out.grown hg5 HB4.out.size (fun q hq => (HO4.out.lt q hq).1)); obtain ⟨B5, c5, hv5, _⟩ := own_sl ho5; subst hv5; rw [hN3] at ho5 ⊢; have HO5 := Lib.hid ho5; clear ho5 hg5))
    have ho5 := HO5.out
    rw [all_cells m s hK hN2 hZ] at ho5
    obtain ⟨g5, cap5, hv5, hg5, _⟩ := ho5.form (by omega)
    injection hv5 with h1 _ h3
    subst h1 h3
    have HCE := Lib.hid (ho5.cells (g := g5) rfl)
    have hal := allB_len m s.data.toList
    rw [show s.data.toList.length = s.size by simp, hK] at hal
    have HAL := Lib.hid hal
    have hcN := ho5.form (by omega)
    have HLT := Lib.hid (fun k (hk : k < K) => layL_take (m := m) (l := s.data.toList) (k := k) (by rw [show s.data.toList.length = s.size by simp, hK]; exact hk))
    have HLL := Lib.hid (layL_len m s.data.toList)
    rw [show s.data.toList.length = s.size by simp, hK] at HLL
    have hg5lt := (ho5.lt g5 rfl).2
    generalize allB m s.data.toList = AB at *
    obtain ⟨LL, hLL⟩ : ∃ LL, layL m s.data.toList = LL := ⟨_, rfl⟩
    rw [hLL] at HLT HLL
    have HLE := Lib.hid hLL
    have HKE := Lib.hid hK
    clear hLL
    have HG5 := Lib.hid hg5lt
    clear ho5 HO5 HO4 HO3 hcN hal
    go_loopw [9, 10] (fun vo vi wr => ∃ (k a : Nat) (P : Option Addr) (cP : Nat), a = k * 64 ∧ vo = .slice P k cP ∧ vi = .int .i64 (a : Int) ∧ k ≤ K ∧ wr.ownsRow w5.heap.size 9 1 (.slice P k cP) k (strsR (LL.take k)) ∧ Below w5.heap.size w5 wr) (fun _ vi _ => K * 64 - (intOf vi).toNat)
    case atStart => exact ⟨0, 0, none, 0, rfl, rfl, rfl, by omega, World.ownsRow_nil _ _ _ _, Below.refl _ _⟩
    case round =>
      obtain ⟨k, a, P, cP, ha, rfl, rfl, hk, hown, hbe⟩ := hrel
      have HO := Lib.hid hown
      have HBE := Lib.hid hbe
      have a0 : (0 : Int) ≤ (a : Int) := Int.natCast_nonneg _
      by_cases hkK : k < K
      · have a1 : (a : Int) < (N3 : Int) := by omega
        have a2 : IntKind.i64.wrap ((a : Int) + 64) = (a : Int) + 64 := IntWalk.i64_in _ (by omega)
        have a3 : a + 64 ≤ N3 := by omega
        subst ha
        have HCV := Lib.run_convert_whole (P := Tryd.prog) wr 39 5 9 Tryd.underlying39 Tryd.underlying5 Tryd.underlying9 g5 (k * 64) (blkAt AB k) (blk_bytes (fun j u hu => by have := HCE.out j u hu; exact (hbe.cell (by rw [block_add]; exact HG5.out)).trans this) HAL.out hkK) (c5 - k * 64)
        rw [blk_size HAL.out hkK] at HCV
        have HLTk := Lib.hid (HLT.out k hkK)
        have hb1 : (k + 1) * 16 ≤ 140737488355328 := by omega
        have hb2 : k + 1 ≤ maxLen := by unfold maxLen; omega
        have HNW := Lib.hid (Blk.new wr 9 #[.string (blkAt AB k)])
        have HBA := Lib.hid (hbe.alloc hbe.size (.cells #[.string (blkAt AB k)] 9))
        generalize blkAt AB k = bk at *
        clear hown hbe
        go_wp2_with (at_builtin; refine wpList_app E_str rfl (.tmp 56) (.tmp 63) rfl rfl (HO.out.alloc _) ⟨wr.heap.size, 0, none⟩ 1 1 [.string bk] rfl rfl (World.news_of_block HNW.out) (by simp [Value.oneCell']) hb1 hb2 (HBA.out.size) (by decide) ?_; intro g8 c8 w8 ho8 hg8 hat8; have HO8 := Lib.hid ho8; have HB8 := Lib.hid (HBA.out.grown hg8 HBA.out.size (fun q hq => (HO.out.lt q hq).1)); clear ho8 hg8 hat8)
        have a4 : IntKind.i64.wrap ((k : Int) * 64 + 64) = (k : Int) * 64 + 64 := IntWalk.i64_in _ (by omega)
        go_wp2_with fail
        go_roundw
        case rel => exact ⟨k + 1, (k + 1) * 64, _, _, rfl, rfl, by go_num, by omega, by rw [HLTk.out, strs_snoc]; exact HO8.out, HB8.out⟩
        case measure => simp only [intOf]; omega
      · obtain rfl : k = K := by omega
        subst ha
        rw [List.take_of_length_le (by rw [HLL.out]; exact Nat.le_refl _)] at hown
        have HO8 := Lib.hid hown
        have HB8 := Lib.hid (HB5.out.trans (hbe.mono HB5.out.size))
        clear hown hbe
        go_wp2_with fail
        go_ret2
        refine ⟨P, cP, rfl, ?_, HB8.out⟩
        rw [HLE.out]
        exact own_weakR HO8.out HB5.out.size
end Go.Proofs.YtjiphalannmcnaaDoor.REC
