/- The walk of record's Join. -/
import Derived.Test.YtjiphalannmcnaaDoorRecM3
import Derived.Test.YtjiphalannmcnaaDoorShelf
import Derived.Deep.RegionHeld3
import Derived.Lib.AtoiErrMem
namespace Go.Proofs.YtjiphalannmcnaaDoor.REC
open Go.RowKit
set_option linter.unusedVariables false
set_option linter.unusedSimpArgs false

theorem inter_nil (xs : List (List UInt8)) : Lib.join xs [] = xs.flatten := by
  unfold Lib.join
  induction xs with
  | nil => rfl
  | cons x xs ih =>
    cases xs with
    | nil => simp [List.intercalate]
    | cons y ys => simp_all [List.intercalate, List.intersperse]
theorem cat_join (bl : List ByteArray) : Lib.join (bl.map (·.data.toList)) [] = cat bl := by
  rw [inter_nil]
  unfold cat
  rw [List.flatMap_def]
set_option maxHeartbeats 1000000 in
set_option maxRecDepth 100000 in
theorem join_none (A : Option Addr) (c : Nat) (w : World) :
    Calls Tryd.prog 10 #[.slice A 0 c] w fun e w' => e = .returned (.tuple #[.string ByteArray.empty, .int .i64 2]) ∧ w = w' := by
  go_enter Tryd.func10, Tryd.ntmps10
  go_wp2_with fail
  go_ret2
  exact ⟨rfl, rfl⟩
set_option maxHeartbeats 2000000 in
set_option maxRecDepth 100000 in
theorem join_sizes (bl : List ByteArray) (bk o c : Nat) (w : World) (hr : ∀ j x, bl[j]? = some x → w.cell? ⟨bk, o + j, none⟩ = some (.string x)) (hl : bl.length ≤ 100000) (h0 : bl ≠ []) (h64 : ¬ All64 bl) :
    Calls Tryd.prog 10 #[.slice (some ⟨bk, o, none⟩) bl.length c] w fun e w' => e = .returned (.tuple #[.string ByteArray.empty, .int .i64 2]) ∧ w = w' := by
  have hpos : 1 ≤ bl.length := by
    cases bl with
    | nil => exact absurd rfl h0
    | cons _ _ => simp
  have H64 := Lib.hid h64
  have HR := Lib.hid hr
  obtain ⟨n, hn⟩ : ∃ n, bl.length = n := ⟨_, rfl⟩
  have HN := Lib.hid hn
  rw [hn] at hpos hl ⊢
  have d1 : ((n : Int) == 0) = false := by simpa using (show ¬ (n : Int) = 0 by omega)
  have d2 : ¬ (n : Int) = 0 := by omega
  clear h0 h64 hr hn
  go_enter Tryd.func10, Tryd.ntmps10
  go_wp2_with fail
  go_loopw [18] (fun v wr => ∃ k : Nat, v = .int .i64 (k : Int) ∧ k ≤ n ∧ (∀ b ∈ bl.take k, b.size = 64) ∧ wr = w) (fun v _ => n - (intOf v).toNat)
  case atStart => exact ⟨0, rfl, by omega, by simp, rfl⟩
  case round =>
    obtain ⟨k, rfl, hk, hall, rfl⟩ := hrel
    have k0 : (0 : Int) ≤ (k : Int) := Int.natCast_nonneg _
    by_cases hlt : k < n
    · have hkl : k < bl.length := by rw [HN.out]; exact hlt
      have x0 := HR.out k bl[k] (List.getElem?_eq_getElem hkl)
      have HTK := Lib.hid (List.take_succ_eq_append_getElem hkl)
      have k1 : (k : Int) < (n : Int) := by omega
      obtain ⟨b, hb⟩ : ∃ b, bl[k] = b := ⟨_, rfl⟩
      rw [hb] at x0 HTK
      have HALL := Lib.hid hall
      clear hall hb
      by_cases hs : b.size = 64
      · have HS := Lib.hid hs
        have d3 : ((b.size : Int) != 64) = false := by simp [hs]
        go_wp2_with fail
        go_roundw
        case rel => exact ⟨k + 1, by go_num, by omega, by
          rw [HTK.out]
          intro y hy
          rcases List.mem_append.1 hy with q | q
          · exact HALL.out y q
          · rw [List.mem_singleton.1 q]; exact HS.out, by first | rfl | trivial⟩
        case measure => simp only [intOf]; omega
      · have d3 : ((b.size : Int) != 64) = true := by simpa using (show ¬ (b.size : Int) = 64 by omega)
        have d4 : ¬ (b.size : Int) = 64 := by omega
        go_wp2_with fail
        go_ret2
        exact ⟨rfl, rfl⟩
    · obtain rfl : k = n := by omega
      rw [List.take_of_length_le (by rw [HN.out]; exact Nat.le_refl _)] at hall
      exact absurd hall H64.out
set_option maxHeartbeats 4000000 in
set_option maxRecDepth 100000 in
theorem join_go (bl : List ByteArray) (bk o c : Nat) (w : World) (hr : ∀ j x, bl[j]? = some x → w.cell? ⟨bk, o + j, none⟩ = some (.string x)) (hbk : bk < w.heap.size) (hcap : bl.length ≤ c) (hl : bl.length ≤ 100000) (h0 : bl ≠ []) (h64 : All64 bl) :
    Calls Tryd.prog 10 #[.slice (some ⟨bk, o, none⟩) bl.length c] w fun e w' => e = .returned (.tuple #[.string (jnS bl), .int .i64 (jnE bl)]) ∧ Below w.heap.size w w' := by
  have hpos : 1 ≤ bl.length := by
    cases bl with
    | nil => exact absurd rfl h0
    | cons _ _ => simp
  have x0 : w.cell? ⟨bk, o, none⟩ = some (.string (hd0 bl)) := by
    have := hr 0 (hd0 bl) (by unfold hd0; cases bl <;> simp_all)
    simpa using this
  have HHD := Lib.hid (fun w => head_any (hd0 bl) w _ _ _ ⟨rfl, rfl, rfl⟩)
  have hcl := cat_len h64
  have hJ := fun (W : World) (hb : Below w.heap.size w W) => Tryd.strings_Join bk o c bl ⟨#[]⟩ W (fun j x hx => (hb.cell (p := ⟨bk, o + j, none⟩) hbk).trans (hr j x hx)) (Nat.lt_of_lt_of_le hbk hb.size) (by omega) hcap (by rw [show (⟨#[]⟩ : ByteArray).data.toList = [] from rfl, cat_join, hcl]; omega)
  rw [show (⟨#[]⟩ : ByteArray).data.toList = [] from rfl, cat_join] at hJ
  have HJ := Lib.hid hJ
  have HX1 := Lib.hid (fun e => jn_bad (jn_head h0 h64 e) e)
  have HX2 := Lib.hid (fun e hm => jn_bad (jn_mark h0 h64 e hm) (by decide))
  have HX3 := Lib.hid (fun e hm hs => jn_bad (jn_sum h0 h64 e hm hs) (by decide))
  have HX4 := Lib.hid (fun e hm hs => jn_good h0 h64 e hm hs)
  have H64 := Lib.hid h64
  have HR := Lib.hid hr
  obtain ⟨n, hn⟩ : ∃ n, bl.length = n := ⟨_, rfl⟩
  have HN := Lib.hid hn
  have HCL := Lib.hid hcl
  rw [hn] at hpos hl HX2 HX3 HX4 HCL HJ ⊢
  have d1 : ((n : Int) == 0) = false := by simpa using (show ¬ (n : Int) = 0 by omega)
  have d2 : ¬ (n : Int) = 0 := by omega
  generalize jnE bl = je at *
  generalize jnS bl = js at *
  clear h0 h64 hr hn hJ hcl
  go_enter Tryd.func10, Tryd.ntmps10
  go_wp2_with fail
  go_loopw [18] (fun v wr => ∃ k : Nat, v = .int .i64 (k : Int) ∧ k ≤ n ∧ wr = w) (fun v _ => n - (intOf v).toNat)
  case atStart => exact ⟨0, rfl, by omega, rfl⟩
  case round =>
    obtain ⟨k, rfl, hk, rfl⟩ := hrel
    have k0 : (0 : Int) ≤ (k : Int) := Int.natCast_nonneg _
    by_cases hlt : k < n
    · have hkl : k < bl.length := by rw [HN.out]; exact hlt
      have y0 := HR.out k bl[k] (List.getElem?_eq_getElem hkl)
      have hs := H64.out bl[k] (List.getElem_mem hkl)
      have k1 : (k : Int) < (n : Int) := by omega
      obtain ⟨b, hb⟩ : ∃ b, bl[k] = b := ⟨_, rfl⟩
      rw [hb] at y0 hs
      have d3 : ((b.size : Int) != 64) = false := by simp [hs]
      clear hb
      go_wp2_with fail
      go_roundw
      case rel => exact ⟨k + 1, by go_num, by omega, by first | rfl | trivial⟩
      case measure => simp only [intOf]; omega
    · obtain rfl : k = n := by omega
      obtain ⟨w, rfl⟩ : ∃ w : World, w = wr := ⟨_, rfl⟩
      have hn0 : (0 : Int) < (k : Int) := by omega
      obtain ⟨ha, hha⟩ : ∃ z, hdB (hd0 bl) = z := ⟨_, rfl⟩
      obtain ⟨hv, hhv⟩ : ∃ z, hdN (hd0 bl) = z := ⟨_, rfl⟩
      obtain ⟨he, hhe⟩ : ∃ z, hdE (hd0 bl) = z := ⟨_, rfl⟩
      rw [hha, hhv, hhe] at HHD
      rw [hhe] at HX1
      rw [hha, hhv, hhe] at HX2 HX3 HX4
      have HA := Lib.hid hha
      have HV := Lib.hid hhv
      clear hha hhv hhe
      by_cases he0 : he = 0
      rotate_left
      · obtain ⟨rfl, rfl⟩ := HX1.out he0
        have d3 : (je == 0) = false := by simpa using he0
        clear HX1 HX2 HX3 HX4
        go_wp2_with fail
        refine (HHD.out _).mono ?_
        rintro e w1 ⟨rfl, hb1⟩
        have HB1 := Lib.hid hb1
        clear hb1
        go_wp2_with fail
        go_ret2
        exact ⟨rfl, HB1.out⟩
      · subst he0
        by_cases hm : ha = false ∨ (k : Int) ≠ blkN hv
        · obtain ⟨rfl, rfl⟩ := HX2.out rfl hm
          clear HX1 HX2 HX3 HX4
          cases ha with
          | false =>
            clear hm
            go_wp2_with fail
            refine (HHD.out _).mono ?_
            rintro e w1 ⟨rfl, hb1⟩
            have HB1 := Lib.hid hb1
            clear hb1
            go_wp2_with fail
            go_ret2
            exact ⟨rfl, HB1.out⟩
          | true =>
            have hm2 : ¬ (k : Int) = blkN hv := hm.resolve_left (by decide)
            obtain ⟨r, hr⟩ : ∃ r, blkN hv = r := ⟨_, rfl⟩
            rw [hr] at hm2
            have HBL := Lib.hid (fun w => blocks_any hv w r hr)
            have d4 : ((k : Int) != r) = true := by simpa using hm2
            clear hm hr
            go_wp2_with fail
            refine (HHD.out _).mono ?_
            rintro e w1 ⟨rfl, hb1⟩
            have HB1 := Lib.hid hb1
            clear hb1
            go_wp2_with fail
            refine (HBL.out _).mono ?_
            rintro e w2 ⟨rfl, rfl⟩
            go_wp2_with fail
            go_ret2
            exact ⟨rfl, HB1.out⟩
        · obtain rfl : ha = true := by
            cases ha with
            | false => exact absurd (.inl rfl) hm
            | true => rfl
          have hm2 : (k : Int) = blkN hv := Classical.byContradiction fun z => hm (.inr z)
          have HBL := Lib.hid (fun w => blocks_any hv w (k : Int) hm2.symm)
          have HM := Lib.hid hm
          have HM2 := Lib.hid hm2
          clear hm hm2 HX1 HX2
          go_wp2_with fail
          refine (HHD.out _).mono ?_
          rintro e w1 ⟨rfl, hb1⟩
          have HB1 := Lib.hid hb1
          clear hb1
          go_wp2_with fail
          refine (HBL.out _).mono ?_
          rintro e w2 ⟨rfl, rfl⟩
          go_wp2_with fail
          refine (HJ.out _ HB1.out).mono ?_
          rintro e w3 ⟨rfl, hb3⟩
          have HB3 := Lib.hid (HB1.out.trans (hb3.mono HB1.out.size))
          clear hb3
          obtain ⟨S, hS⟩ : ∃ S : ByteArray, ⟨(cat bl).toArray⟩ = S := ⟨_, rfl⟩
          have hSz : S.size = k * 64 := by rw [← hS]; show (cat bl).toArray.size = _; simp [HCL.out]
          have hSl : S.data.toList = cat bl := by rw [← hS]
          rw [hS]
          have HSZ := Lib.hid hSz
          have HSL := Lib.hid hSl
          have h7 : (7 : Int) ≤ (S.size : Int) := by omega
          have hx4 : (S.extract 3 7).size = 4 := by rw [Lib.extract_eq, Lib.size_mk, List.length_take, List.length_drop, hSl, HCL.out]; omega
          have hcv := Lib.run_convert_string_bytes (P := Tryd.prog) w3 9 39 5 (S.extract 3 7) Tryd.underlying9 Tryd.underlying39 Tryd.underlying5
          rw [hx4] at hcv
          have hbw := Lib.bytesWorld_below w3 5 (S.extract 3 7)
          have hce : ∀ j, j < 4 → (Lib.bytesWorld w3 5 (S.extract 3 7)).cell? ⟨w3.heap.size, j, none⟩ = some (.int .u8 (((cat bl).getD (3 + j) 0).toNat : Int)) := fun j hj => by
            rw [Lib.bytesWorld_cell _ _ _ _ (by rw [hx4]; exact hj), Lib.extract_eq, hSl]
            simp [List.getD_eq_getElem?_getD, List.getElem?_take, hj]
          generalize Lib.bytesWorld w3 5 (S.extract 3 7) = w4 at *
          have HCE := Lib.hid hce
          have HB4 := Lib.hid (HB3.out.trans (hbw.mono HB3.out.size))
          clear hce hbw hx4 hSz hSl hS
          go_wp2_with fail
          obtain ⟨v, hvn⟩ := hdN_nat (hd0 bl)
          have hv2 : hv = (v : Int) := HV.out.symm.trans hvn
          subst hv2
          have hv4 : v ≤ 40000 ∧ 7 + v ≤ k * 64 := by
            have h1 := HM2.out
            unfold blkN at h1
            split at h1 <;> omega
          obtain ⟨hv5, hv6⟩ := hv4
          have HSP := Lib.hid (fun j => show pS (cat bl) (j + 1) = pS (cat bl) j * 256 + ((cat bl).getD (3 + j) 0).toNat from rfl)
          have HP4 := Lib.hid (pS_four (cat bl))
          have HPL := Lib.hid (pS_lt (cat bl))
          have hbody : (S.extract 7 (7 + v)).data.toList = body bl := by
            rw [Lib.extract_eq]
            unfold body
            rw [hvn, HSL.out]
            simp
          have HBD := Lib.hid hbody
          have HEX := Lib.hid (show S.extract 7 (7 + v) = ⟨(body bl).toArray⟩ from by
            rw [← hbody])
          have hex : (S.extract 7 (7 + v)).size ≤ 1000000 := by
            rw [Lib.extract_eq, Lib.size_mk, List.length_take]
            omega
          have HCK := Lib.hid (fun w => check_any (S.extract 7 (7 + v)) w hex)
          rw [hbody] at HCK
          clear hvn hbody hex
          go_loopw [10, 54] (fun vs vj wr => ∃ j : Nat, vs = .int .u32 ((pS (cat bl) j : Nat) : Int) ∧ vj = .int .i64 (j : Int) ∧ j ≤ 4 ∧ wr = w4) (fun _ vj _ => 4 - (intOf vj).toNat)
          case atStart => exact ⟨0, rfl, rfl, by omega, rfl⟩
          case round =>
            obtain ⟨j, rfl, rfl, hj, rfl⟩ := hrel
            have j0 : (0 : Int) ≤ (j : Int) := Int.natCast_nonneg _
            by_cases hj4 : j < 4
            · have c0 := HCE.out j hj4
              have hp := HPL.out j
              have hp2 : pS (cat bl) j < 16777216 := Nat.lt_of_lt_of_le hp (Nat.le_trans (Nat.pow_le_pow_right (by omega) (show j ≤ 3 by omega)) (by decide))
              have hb := ((cat bl).getD (3 + j) 0).toNat_lt
              have hs := HSP.out j
              have f3 := or_bytes32 (pS (cat bl) j) ((cat bl).getD (3 + j) 0).toNat hp2 (by omega)
              generalize ((cat bl).getD (3 + j) 0).toNat = b at *
              obtain ⟨q, hq⟩ : ∃ q, pS (cat bl) j * 256 + b = q := ⟨_, rfl⟩
              rw [hq] at f3 hs
              have HS := Lib.hid hs
              generalize pS (cat bl) j = p at *
              have f1 : ((p : Int) * 256) % 4294967296 = (p : Int) * 256 := by omega
              have f2 : (b : Int) % 4294967296 = (b : Int) := by omega
              have j1 : (j : Int) < 4 := by omega
              clear hp hs hq
              go_wp2_with fail
              go_roundw
              case rel => exact ⟨j + 1, by rw [HS.out], by go_num, by omega, by first | rfl | trivial⟩
              case measure => simp only [intOf]; omega
            · obtain rfl : j = 4 := by omega
              rw [HP4.out]
              have g1 : IntKind.i64.wrap (7 + (v : Int)) = 7 + (v : Int) := IntWalk.i64_in _ (by omega)
              have g2 : (7 : Int) ≤ 7 + (v : Int) := by omega
              have hSz := HSZ.out
              have g3 : 7 + (v : Int) ≤ (S.size : Int) := by omega
              have g4 : 7 + v ≤ S.size := by omega
              have g5 : (0 : Int) ≤ 7 + (v : Int) := by omega
              by_cases hc : (chk (body bl)).toNat = sumB (cat bl)
              rotate_left
              · obtain ⟨rfl, rfl⟩ := HX3.out (by first | rfl | trivial) HM.out (.inl hc)
                have hc2 : (((chk (body bl)).toNat : Int) != ((sumB (cat bl) : Nat) : Int)) = true := by simpa using (show ¬ ((chk (body bl)).toNat : Int) = ((sumB (cat bl) : Nat) : Int) by omega)
                generalize (chk (body bl)).toNat = C at *
                generalize sumB (cat bl) = D at *
                clear hSz
                go_wp2_with fail
                refine (HCK.out _).mono ?_
                rintro e w6 ⟨rfl, hb6⟩
                have HB6 := Lib.hid (HB4.out.trans (hb6.mono HB4.out.size))
                clear hb6
                go_wp2_with fail
                go_ret2
                exact ⟨rfl, HB6.out⟩
              · have hc2 : (((chk (body bl)).toNat : Int) != ((sumB (cat bl) : Nat) : Int)) = false := by rw [hc]; simp
                have hex2 : S.extract (7 + v) S.size = ⟨((cat bl).drop (7 + v)).toArray⟩ := by rw [Lib.extract_from, HSL.out]
                have hts : (S.extract (7 + v) S.size).size ≤ 9223372036854775807 := by rw [hex2, Lib.size_mk, List.length_drop, HCL.out]; omega
                have HTR := Lib.hid (fun w => Tryd.strings_Trim_one (S.extract (7 + v) S.size) 0 (by decide) w hts)
                rw [hex2] at HTR
                rw [show (⟨((cat bl).drop (7 + v)).toArray⟩ : ByteArray).data.toList = (cat bl).drop (7 + v) from rfl] at HTR
                have HTL := Lib.hid (show tail0 bl ↔ Lib.trimB ((cat bl).drop (7 + v)) 0 = [] by
                  rw [trim_all]
                  unfold tail0
                  rw [HV.out]
                  rfl)
                have HCC := Lib.hid hc
                rw [hc] at HCK
                generalize sumB (cat bl) = D at *
                clear hSz hc hts
                obtain ⟨T, hT⟩ : ∃ T, Lib.trimB ((cat bl).drop (7 + v)) 0 = T := ⟨_, rfl⟩
                rw [hT] at HTR HTL
                clear hT
                go_wp2_with fail
                refine (HCK.out _).mono ?_
                rintro e w6 ⟨rfl, hb6⟩
                have HB6 := Lib.hid (HB4.out.trans (hb6.mono HB4.out.size))
                clear hb6
                go_wp2_with fail
                refine (HTR.out _).mono ?_
                rintro e w7 ⟨rfl, hw7⟩
                have HB7 := Lib.hid (show Below w.heap.size w w7 from by
                  rcases hw7 with rfl | rfl
                  · exact HB6.out
                  · exact Below.drew HB6.out)
                clear hw7
                by_cases ht : T = []
                · subst ht
                  obtain ⟨rfl, rfl⟩ := HX4.out (by first | rfl | trivial) HM.out (fun z => z.elim (fun y => y HCC.out) (fun y => y (HTL.out.2 rfl)))
                  go_wp2_with fail
                  go_ret2
                  exact ⟨by rw [← HEX.out]; rfl, HB7.out⟩
                · obtain ⟨rfl, rfl⟩ := HX3.out (by first | rfl | trivial) HM.out (.inr (fun y => ht (HTL.out.1 y)))
                  have hte : (!T.isEmpty) = true := by cases T <;> simp_all
                  have hte2 : T.isEmpty = false := by cases T <;> simp_all
                  go_wp2_with fail
                  go_ret2
                  exact ⟨rfl, HB7.out⟩
/-- record.Join, of any blocks that lie in a row. -/
theorem join_any (bl : List ByteArray) (bk o c : Nat) (w : World) (hr : ∀ j x, bl[j]? = some x → w.cell? ⟨bk, o + j, none⟩ = some (.string x)) (hbk : bk < w.heap.size) (hcap : bl.length ≤ c) (hl : bl.length ≤ 100000) :
    Calls Tryd.prog 10 #[.slice (some ⟨bk, o, none⟩) bl.length c] w fun e w' => e = .returned (.tuple #[.string (jnS bl), .int .i64 (jnE bl)]) ∧ Below w.heap.size w w' := by
  by_cases h0 : bl = []
  · obtain ⟨h1, h2⟩ := jn_bad (jn_form (.inl h0)) (by decide)
    rw [h1, h2, h0]
    exact (join_none _ _ w).mono fun e w' ⟨h3, h4⟩ => ⟨h3, h4 ▸ Below.refl _ _⟩
  · by_cases h64 : All64 bl
    · exact join_go bl bk o c w hr hbk hcap hl h0 h64
    · obtain ⟨h1, h2⟩ := jn_bad (jn_form (.inr h64)) (by decide)
      rw [h1, h2]
      exact (join_sizes bl bk o c w hr hl h0 h64).mono fun e w' ⟨h3, h4⟩ => ⟨h3, h4 ▸ Below.refl _ _⟩
end Go.Proofs.YtjiphalannmcnaaDoor.REC
