/- The walk of the law StoreKeeps. -/
import Derived.Test.YtdapcahphaldjaaKeepsA
namespace Go.Proofs.Ytdapcahphaldjaa.Store
open Go.RowKit
set_option linter.unusedVariables false
set_option linter.unusedSimpArgs false

set_option maxHeartbeats 4000000 in
set_option maxRecDepth 100000 in
theorem keeps_in (n : Nat) (A : Option Addr) (xs : List OpV) (c : Nat) (xd xa xn xt : Int) (xb : ByteArray) (xw : Bool) (w : World) (h3 : 3 ≤ n) (hn : n ≤ 40) (hr : Row w 0 A (ocells xs)) (hx : ∀ o ∈ xs, OpV.I o) (hm : xs.length ≤ 40) (hxb : xb.size ≤ 100) :
    Calls Try.prog 4 #[.int .i64 (n : Int), .slice A xs.length c, .agg #[.int .i64 xd, .int .i64 xa, .int .i64 xn, .int .i64 xt, .string xb, .bool xw]] w fun e w' => e = .returned (.bool true) ∧ Below w.heap.size w w' := by
  obtain ⟨blk, hblk⟩ : ∃ blk, (OpV.mk xd xa xn xt xb xw).block = blk := ⟨_, rfl⟩
  have HBLK := Lib.hid hblk
  have HX := Lib.hid hx
  obtain ⟨m, hml⟩ : ∃ m, xs.length = m := ⟨_, rfl⟩
  rw [hml] at hm ⊢
  have HM := Lib.hid hml
  have hm2 : decide ((40 : Int) < (m : Int)) = false := by simp; omega
  have hn2 : decide ((40 : Int) < (n : Int)) = false := by simp; omega
  have hb2 : decide ((100 : Int) < (xb.size : Int)) = false := by simp; omega
  have HR := Lib.hid hr
  clear hx hml hr hblk
  go_enter Try.func4, Try.ntmps4
  go_wp2_with fail
  have HBX := Lib.hid (BoxO.mk (Blk.new w 32 #[.int .i64 xd, .int .i64 xa, .int .i64 xn, .int .i64 xt, .string xb, .bool xw]))
  have HB0 := Lib.hid (alloc1 w (.cells #[.int .i64 xd, .int .i64 xa, .int .i64 xn, .int .i64 xt, .string xb, .bool xw] 32))
  have hXlt : w.heap.size < (w.alloc (.cells #[.int .i64 xd, .int .i64 xa, .int .i64 xn, .int .i64 xt, .string xb, .bool xw] 32)).heap.size := by simp
  generalize (w.alloc (.cells #[.int .i64 xd, .int .i64 xa, .int .i64 xn, .int .i64 xt, .string xb, .bool xw] 32)) = W at HBX HB0 hXlt ⊢
  have HR := Lib.hid (HR.out.below HB0.out)
  refine (awake05 _).mono ?_
  rintro e w1 ⟨rfl, hb⟩
  have HB := Lib.hid hb
  have HBX := Lib.hid (HBX.out.later hb)
  obtain ⟨c0, c1, c2, c3, c4, c5⟩ := HBX.out.c
  clear hb
  go_wp2_with fail
  refine (new_ok n _ h3 (by omega)).mono ?_
  rintro e w2 ⟨S, G, rfl, hS, hG, hst, hb⟩
  have hsz1 := HB.out.size
  have HO := Lib.hid (One.mk (w0 := W) hst (HB.out.trans (hb.mono HB.out.size)) (by omega) (by omega))
  have HBX := Lib.hid (HBX.out.later hb)
  have hXS : w.heap.size < S := by omega
  have hXG : w.heap.size < G := by omega
  clear hst hb hS hG c0 c1 c2 c3 c4 c5 HB hsz1
  go_wp2_with fail
  go_loopw [47] (fun v wr => ∃ (k : Nat) (s : SS), v = .int .i64 (k : Int) ∧ k ≤ m ∧ s.Ok k ∧ One W S G n s wr ∧ BoxO w.heap.size xd xa xn xt xb xw wr) (fun v _ => m - (intOf v).toNat)
  case atStart => exact ⟨0, _, rfl, by omega, SS.Ok.new n, HO.out, HBX.out⟩
  case round =>
    clear HO HBX
    obtain ⟨k, s, rfl, hk, hok, ho, hbx⟩ := hrel
    have HO := Lib.hid ho
    have HBX := Lib.hid hbx
    have HK := Lib.hid hok
    clear ho hbx hok
    by_cases hlt : k < m
    · obtain ⟨ad, rfl, c0, c1, c2, c3, c4, c5⟩ := op_cells (HR.out.below HO.out.be) (j := k) (by rw [HM.out]; exact hlt)
      obtain ⟨o, ho⟩ : ∃ o, o = xs[k]'(by rw [HM.out]; exact hlt) := ⟨_, rfl⟩
      have hoi : o.I := by rw [ho]; exact HX.out _ (List.getElem_mem _)
      rw [← ho] at c0 c1 c2 c3 c4 c5
      have HOI := Lib.hid hoi
      clear ho hoi
      have g0 : (0 : Int) ≤ (k : Int) := Int.natCast_nonneg _
      have g1 : (k : Int) < (m : Int) := by omega
      obtain ⟨dd, at_, nn, tt, b, whole⟩ := o
      dsimp only at c0 c1 c2 c3 c4 c5
      have HOK := Lib.hid (HK.out.op _ HOI.out)
      by_cases h0 : dd = 0
      · subst h0
        have h0b : ((0 : Int) == 0) = true := rfl
        go_wp2_with fail
        have HO2 := Lib.hid (HO.out.later (alloc1 wr (.cells #[.int .i64 0, .int .i64 at_, .int .i64 nn, .int .i64 tt, .string b, .bool whole] 32)))
        have HBX2 := Lib.hid (HBX.out.later (alloc1 wr (.cells #[.int .i64 0, .int .i64 at_, .int .i64 nn, .int .i64 tt, .string b, .bool whole] 32)))
        have HOO := Lib.hid (BoxO.mk (Blk.new wr 32 #[.int .i64 0, .int .i64 at_, .int .i64 nn, .int .i64 tt, .string b, .bool whole]))
        have hlt2 := And.intro HO.out.st.lt1 HO.out.st.lt2
        obtain ⟨Y, hY⟩ : ∃ Y, Y = wr.heap.size := ⟨_, rfl⟩
        rw [← hY] at HOO hlt2 ⊢
        generalize (wr.alloc (.cells #[.int .i64 0, .int .i64 at_, .int .i64 nn, .int .i64 tt, .string b, .bool whole] 32)) = W2 at HO2 HBX2 HOO ⊢
        obtain ⟨d0, d1, d2, d3, d4, d5⟩ := HOO.out.c
        have HO2 := Lib.hid HO2.out.drew
        have HBX2 := Lib.hid HBX2.out.drew
        have HOO := Lib.hid HOO.out.drew
        clear c0 c1 c2 c3 c4 c5 hY
        go_region_held3 (fun w' => w'.cell? ⟨Y, 0, none⟩ = some (.int .i64 0) ∧ w'.cell? ⟨Y, 1, none⟩ = some (.int .i64 at_) ∧ w'.cell? ⟨Y, 2, none⟩ = some (.int .i64 nn) ∧ w'.cell? ⟨Y, 3, none⟩ = some (.int .i64 tt) ∧ w'.cell? ⟨Y, 4, none⟩ = some (.string b) ∧ w'.cell? ⟨Y, 5, none⟩ = some (.bool whole))
          (first | (go_split_ands; exact ⟨d0, d1, d2, d3, d4, d5⟩) | (go_keep; done))
          (first
            | (go_at_call 19; refine (block_any _ _ _ _ _ _ _ _ rfl).mono ?_; rintro e w4 ⟨rfl, hb⟩; have HO2 := Lib.hid (HO2.out.later hb); have HBX2 := Lib.hid (HBX2.out.later hb); have HOO := Lib.hid (HOO.out.later hb); clear hb; obtain ⟨d0, d1, d2, d3, d4, d5⟩ := HOO.out.c)
            | (go_at_call 18; refine (write_any S G n _ _ s _ HO2.out.st (HK.out.more (by omega))).mono ?_; rintro e w5 ⟨rfl, hst, hfr⟩; have HO2 := Lib.hid (HO2.out.set hst hfr); have HBX2 := Lib.hid (HBX2.out.fr hfr (nX _ _ _ hXS hXG)); have HOO := Lib.hid (HOO.out.fr hfr (nX2 _ _ _ hlt2.1 hlt2.2)); clear hst hfr; obtain ⟨d0, d1, d2, d3, d4, d5⟩ := HOO.out.c))
        all_goals
          go_wp2_with fail
          go_roundw
          case rel => exact ⟨k + 1, _, by go_num, by omega, HOK.out, by rw [op0]; exact HO2.out, HBX2.out⟩
          case measure => simp only [intOf]; omega
      · by_cases h1 : dd = 1
        · subst h1
          go_wp2_with fail
          have HO2 := Lib.hid (HO.out.later (alloc1 wr (.cells #[.int .i64 1, .int .i64 at_, .int .i64 nn, .int .i64 tt, .string b, .bool whole] 32)))
          have HBX2 := Lib.hid (HBX.out.later (alloc1 wr (.cells #[.int .i64 1, .int .i64 at_, .int .i64 nn, .int .i64 tt, .string b, .bool whole] 32)))
          refine (fuse_any S G n nn tt s _ HO2.out.st HOI.out.2.2.1).mono ?_
          rintro e w4 ⟨rfl, hst, hfr⟩
          have HO3 := Lib.hid (HO2.out.set hst hfr)
          have HBX3 := Lib.hid (HBX2.out.fr hfr (nX _ _ _ hXS hXG))
          clear hst hfr
          go_wp2_with fail
          go_roundw
          case rel => exact ⟨k + 1, _, by go_num, by omega, HOK.out, by rw [op1]; exact HO3.out, HBX3.out⟩
          case measure => simp only [intOf]; omega
        · by_cases h2 : dd = 2
          · subst h2
            go_wp2_with fail
            have HO2 := Lib.hid (HO.out.later (alloc1 wr (.cells #[.int .i64 2, .int .i64 at_, .int .i64 nn, .int .i64 tt, .string b, .bool whole] 32)))
            have HBX2 := Lib.hid (HBX.out.later (alloc1 wr (.cells #[.int .i64 2, .int .i64 at_, .int .i64 nn, .int .i64 tt, .string b, .bool whole] 32)))
            refine (restart_any S G n s _ HO2.out.st).mono ?_
            rintro e w4 ⟨rfl, hst, hfr⟩
            have HO3 := Lib.hid (HO2.out.set hst hfr)
            have HBX3 := Lib.hid (HBX2.out.fr hfr (nX _ _ _ hXS hXG))
            clear hst hfr
            go_wp2_with fail
            go_roundw
            case rel => exact ⟨k + 1, _, by go_num, by omega, HOK.out, by rw [op2]; exact HO3.out, HBX3.out⟩
            case measure => simp only [intOf]; omega
          · have HOP := Lib.hid (op3 s dd at_ nn tt b whole h0 h1 h2)
            have b0 : (dd == 0) = false := by simpa using h0
            have b1 : (dd == 1) = false := by simpa using h1
            have b2 : (dd == 2) = false := by simpa using h2
            clear h0 h1 h2
            go_wp2_with fail
            go_roundw
            case rel => exact ⟨k + 1, _, by go_num, by omega, HOK.out, by rw [HOP.out]; exact HO.out.later (alloc1 _ _), HBX.out.later (alloc1 _ _)⟩
            case measure => simp only [intOf]; omega
    · obtain rfl : k = m := by omega
      go_wp2_with fail
      obtain ⟨wo, rfl⟩ : ∃ wo : World, wo = wr := ⟨_, rfl⟩
      have hSo := HO.out.st.lt1
      have hGo := HO.out.st.lt2
      have HWS := Lib.hid (show Was wo S G n s (s.bl.take 0) (.slice none 0 0) wo from ⟨HO.out.st, by simpa [strs] using World.ownsRow_nil _ _ _ _, Below.refl _ _⟩)
      have HLN := Lib.hid HO.out.st.len
      go_loopw [11, 75] (fun v i wr => ∃ (j : Nat) (B : Option Addr) (cb : Nat), v = .slice B j cb ∧ i = .int .i64 (j : Int) ∧ j ≤ n ∧ Was wo S G n s (s.bl.take j) v wr) (fun _ i _ => n - (intOf i).toNat)
      case atStart => exact ⟨0, none, 0, rfl, rfl, by omega, HWS.out⟩
      case round =>
        clear HWS
        obtain ⟨j, B, cb, rfl, rfl, hj, hws⟩ := hrel
        have HWS := Lib.hid hws
        clear hws
        by_cases hjl : j < n
        · obtain ⟨bj, hbj⟩ : ∃ x, s.bl[j]? = some x := ⟨_, List.getElem?_eq_getElem (by rw [HLN.out]; exact hjl)⟩
          have HJ := Lib.hid hbj
          have HTK := Lib.hid (show s.bl.take (j + 1) = s.bl.take j ++ [bj] by rw [List.take_add_one, hbj]; rfl)
          have HTL := Lib.hid (show (s.bl.take j).length = j by rw [List.length_take, HLN.out]; omega)
          have OW := Lib.hid (show wr.ownsRow wo.heap.size 9 1 (.slice B j cb) j (strs (s.bl.take j)) by have := HWS.out.own; rw [HTL.out] at this; exact this)
          have hsz : wo.heap.size ≤ wr.heap.size := HWS.out.be.size
          have hb1' : (j + 1) * 16 ≤ 140737488355328 := by omega
          have hb2' : j + 1 ≤ maxLen := by unfold maxLen; omega
          clear hbj
          go_wp2_with fail
          refine (read_ok S G n j s _ HWS.out.st hjl bj HJ.out).mono ?_
          rintro e w4 ⟨rfl, rfl⟩
          go_wp2_with (at_builtin; refine wpList_app E_str rfl (.tmp 84) (.tmp 86) rfl rfl (OW.out.alloc _) ⟨wr.heap.size, 0, none⟩ 1 1 [.string bj] rfl rfl (World.news_of_block (heap_alloc_new wr _)) (by simp [Value.oneCell']) hb1' hb2' (by simp; omega) (by decide) ?_; intro g cap w4 hown4 hg4 hat4; have HO4 := Lib.hid hown4; have HG4 := Lib.hid hg4; clear hown4 hg4 hat4)
          go_roundw
          case rel => exact ⟨j + 1, _, _, rfl, by go_num, by omega, by rw [HTK.out]; exact HWS.out.step hSo hGo (by rw [HTL.out]; exact HO4.out) (by have := HG4.out; exact this)⟩
          case measure => simp only [intOf]; omega
        · obtain rfl : j = n := by omega
          have HTL := Lib.hid (show s.bl.take j = s.bl by rw [List.take_of_length_le (by rw [HLN.out]; omega)])
          have HWS := Lib.hid (show Was wo S G j s s.bl (.slice B j cb) wr by have := HWS.out; rw [HTL.out] at this; exact this)
          have OW := Lib.hid (show wr.ownsRow wo.heap.size 9 1 (.slice B j cb) j (strs s.bl) by have := HWS.out.own; rw [HLN.out] at this; exact this)
          obtain ⟨g, cap, hvg, hgo, hgl⟩ := OW.out.form (by omega)
          obtain ⟨rfl, rfl⟩ : B = some ⟨g, 0, none⟩ ∧ cb = cap := by simpa using hvg
          clear hvg
          go_wp2_with fail
          refine (writes_any S G j s _ HWS.out.st).mono ?_
          rintro e w4 ⟨rfl, rfl⟩
          go_wp2_with fail
          have HBX := Lib.hid (HBX.out.later HWS.out.be)
          obtain ⟨d0, d1, d2, d3, d4, d5⟩ := HBX.out.c
          have HBX := Lib.hid HBX.out.drew
          have HST := Lib.hid HWS.out.st.drew
          have OW := Lib.hid OW.out.drew
          have HBO := Lib.hid ((HO.out.be.trans (HWS.out.be.mono HO.out.be.size)).drew)
          obtain ⟨s2, f, hwr⟩ : ∃ s2 f, s.write xa blk = (s2, f) := ⟨_, _, rfl⟩
          have HWR := Lib.hid hwr
          have hSG := And.intro HO.out.hS HO.out.hG
          clear hwr
          go_region_held3 (fun w' => w'.cell? ⟨w.heap.size, 0, none⟩ = some (.int .i64 xd) ∧ w'.cell? ⟨w.heap.size, 1, none⟩ = some (.int .i64 xa) ∧ w'.cell? ⟨w.heap.size, 2, none⟩ = some (.int .i64 xn) ∧ w'.cell? ⟨w.heap.size, 3, none⟩ = some (.int .i64 xt) ∧ w'.cell? ⟨w.heap.size, 4, none⟩ = some (.string xb) ∧ w'.cell? ⟨w.heap.size, 5, none⟩ = some (.bool xw))
            (first | (go_split_ands; exact ⟨d0, d1, d2, d3, d4, d5⟩) | (go_keep; done))
            (first
              | (go_at_call 19; refine (block_any _ _ _ _ _ _ _ blk HBLK.out).mono ?_; rintro e w4 ⟨rfl, hb⟩; have HST := Lib.hid (HST.out.later hb); have HBX := Lib.hid (HBX.out.later hb); have OW := Lib.hid (own_fr OW.out (Fr.later (S := fun _ => False) hb) (by simp)); have HBO := Lib.hid (HBO.out.trans (hb.mono HBO.out.size)); clear hb; obtain ⟨d0, d1, d2, d3, d4, d5⟩ := HBX.out.c)
              | (go_at_call 18; refine (write_is S G j _ _ s s2 f _ HST.out (HK.out.more (by omega)) HWR.out).mono ?_; rintro e w5 ⟨rfl, hst, hfr⟩; have HST := Lib.hid hst; have HBX := Lib.hid (HBX.out.fr hfr (nX _ _ _ hXS hXG)); have OW := Lib.hid (own_fr OW.out hfr (own_two (by omega) (by omega))); have HBO := Lib.hid (Fr.then_below HBO.out hfr (two_above hSG.1 hSG.2)); clear hst hfr; obtain ⟨d0, d1, d2, d3, d4, d5⟩ := HBX.out.c))
          all_goals
            go_wp2_with fail
            obtain ⟨wf, rfl⟩ : ∃ wf : World, wf = w5 := ⟨_, rfl⟩
            go_loopw [98] (fun i wr => ∃ (i' : Nat), i = .int .i64 (i' : Int) ∧ i' ≤ j ∧ Below wf.heap.size wf wr) (fun i _ => j - (intOf i).toNat)
            case atStart => exact ⟨0, rfl, by omega, Below.refl _ _⟩
            case round =>
              obtain ⟨i, rfl, hi, hbe⟩ := hrel
              have HBE := Lib.hid hbe
              have HBX := Lib.hid (HBX.out.later hbe)
              have HST := Lib.hid (HST.out.later hbe)
              have OW := Lib.hid (own_fr OW.out (Fr.later (S := fun _ => False) hbe) (by simp))
              clear hbe
              obtain ⟨d0, d1, d2, d3, d4, d5⟩ := HBX.out.c
              by_cases hij : i < j
              · obtain ⟨bi, hbi⟩ : ∃ x, s.bl[i]? = some x := ⟨_, List.getElem?_eq_getElem (by rw [HLN.out]; exact hij)⟩
                obtain ⟨ni, hni⟩ : ∃ x, s2.bl[i]? = some x := ⟨_, List.getElem?_eq_getElem (by rw [HST.out.len]; exact hij)⟩
                have e1 : wr.cell? ⟨g, i, none⟩ = some (.string bi) := by rw [OW.out.cellAt i (by omega)]; simp [strs, hbi]
                have HNI := Lib.hid hni
                have g0 : (0 : Int) ≤ (i : Int) := Int.natCast_nonneg _
                have g1 : (i : Int) < (j : Int) := by omega
                by_cases hfar : (i : Int) ≠ xa ∨ f = 1
                · have hsame := SS.write_far s xa blk i (by rw [HWR.out]; exact hfar)
                  rw [HWR.out] at hsame
                  have hbn : bi = ni := by
                    have : s2.bl[i]? = s.bl[i]? := hsame
                    rw [hni, hbi] at this
                    simpa using this.symm
                  subst hbn
                  clear hsame hbi hni
                  by_cases hne : (i : Int) ≠ xa
                  · have hneb : ((i : Int) != xa) = true := by simpa using hne
                    clear hfar hne
                    go_wp2_with fail
                    refine (read_ok S G j i s2 _ HST.out hij bi HNI.out).mono ?_
                    rintro e w6 ⟨rfl, rfl⟩
                    go_wp2_with fail
                    go_roundw
                    case rel => exact ⟨i + 1, by go_num, by omega, HBE.out⟩
                    case measure => simp only [intOf]; omega
                  · have hneb : ((i : Int) != xa) = false := by simpa using hne
                    have hf1 : f = 1 := by
                      rcases hfar with h | h
                      · exact absurd h hne
                      · exact h
                    have hfb : (f == 1) = true := by simpa using hf1
                    clear hfar hne hf1
                    go_wp2_with fail
                    refine (read_ok S G j i s2 _ HST.out hij bi HNI.out).mono ?_
                    rintro e w6 ⟨rfl, rfl⟩
                    go_wp2_with fail
                    go_roundw
                    case rel => exact ⟨i + 1, by go_num, by omega, HBE.out⟩
                    case measure => simp only [intOf]; omega
                · have hxa : (i : Int) = xa := by omega
                  have hf1 : f ≠ 1 := by omega
                  have hneb : ((i : Int) != xa) = false := by simpa using hxa
                  have hfb : (f == 1) = false := by simpa using hf1
                  have hnr := SS.write_near s blk i (by rw [HLN.out]; exact hij) HWS.out.st.all (by rw [hxa, HWR.out]; exact hf1)
                  rw [hxa, HWR.out] at hnr
                  obtain ⟨ni', q, hn1, hleft⟩ := hnr
                  have hbi' : s.bl[i]'(by rw [HLN.out]; exact hij) = bi := by rw [List.getElem?_eq_getElem (by rw [HLN.out]; exact hij)] at hbi; simpa using hbi
                  rw [hbi'] at hleft
                  obtain rfl : ni' = ni := by
                    have : s2.bl[i]? = some ni' := hn1
                    rw [hni] at this
                    simpa using this.symm
                  dsimp only at hleft
                  have hsn1 : ni'.size ≤ 64 := by have := hleft.hn; omega
                  have hsn2 : 64 ≤ ni'.size := by have := hleft.hn; omega
                  have hsb1 : blk.size ≤ 64 := by have := hleft.hb; omega
                  have hsb2 : 64 ≤ blk.size := by have := hleft.hb; omega
                  have hso1 : bi.size ≤ 64 := by have := hleft.ho; omega
                  have hso2 : 64 ≤ bi.size := by have := hleft.ho; omega
                  have HLF := Lib.hid hleft
                  have HBI0 := Lib.hid hbi
                  have hns : ((ni'.size : Int) != 64) = false := by simp; omega
                  by_cases hf0 : f = 0
                  · have hnb := HLF.out.ok hf0
                    subst hnb
                    have hf0b : (f == 0) = true := by simpa using hf0
                    clear hfar hbi hni hn1 hleft hbi' hf0 hxa hf1
                    go_wp2_with fail
                    refine (read_ok S G j i s2 _ HST.out hij _ HNI.out).mono ?_
                    rintro e w6 ⟨rfl, rfl⟩
                    go_wp2_with fail
                    refine (block_any _ _ _ _ _ _ _ _ HBLK.out).mono ?_
                    rintro e w7 ⟨rfl, hb⟩
                    have HST := Lib.hid (HST.out.later hb)
                    have HBX := Lib.hid (HBX.out.later hb)
                    have OW := Lib.hid (own_fr OW.out (Fr.later (S := fun _ => False) hb) (by simp))
                    have HBE := Lib.hid (HBE.out.trans (hb.mono HBE.out.size))
                    clear hb
                    go_wp2_with fail
                    clear d0 d1 d2 d3 d4 d5 e1
                    go_loopw [20] (fun v wi => ∃ k : Nat, v = .int .i64 (k : Int) ∧ k ≤ 64 ∧ Below w7.heap.size w7 wi) (fun v _ => 64 - (intOf v).toNat)
                    case atStart => exact ⟨0, rfl, by omega, Below.refl _ _⟩
                    case round =>
                      obtain ⟨k, rfl, hk, hbi⟩ := hrel
                      have HBX := Lib.hid (HBX.out.later hbi)
                      have HST := Lib.hid (HST.out.later hbi)
                      have OW := Lib.hid (own_fr OW.out (Fr.later (S := fun _ => False) hbi) (by simp))
                      have HBJ := Lib.hid hbi
                      clear hbi
                      obtain ⟨d0, d1, d2, d3, d4, d5⟩ := HBX.out.c
                      have k0 : (0 : Int) ≤ (k : Int) := Int.natCast_nonneg _
                      have kn : (k : Int) ≤ (ni'.size : Int) := by omega
                      have kb : (k : Int) ≤ (bi.size : Int) := by omega
                      by_cases hk64 : k < 64
                      · have kn2 : (k : Int) < (ni'.size : Int) := by omega
                        have kb2 : (k : Int) < (ni'.size : Int) := by omega
                        have kn3 : k < ni'.size := by omega
                        have kb3 : k < ni'.size := by omega
                        have h64 : decide ((k : Int) < 64) = true := by simp; omega
                        have HBX := Lib.hid HBX.out.drew
                        have HBJ := Lib.hid HBJ.out.drew
                        by_cases heq : ni'[k] = ni'[k]
                        · have heb : ((ni'[k].toNat : Int) == (ni'[k].toNat : Int)) = true := by rw [heq]; simp
                          clear heq hk64
                          go_wp2_with fail
                          go_region_held3 (fun w' => w'.cell? ⟨w.heap.size, 0, none⟩ = some (.int .i64 xd) ∧ w'.cell? ⟨w.heap.size, 1, none⟩ = some (.int .i64 xa) ∧ w'.cell? ⟨w.heap.size, 2, none⟩ = some (.int .i64 xn) ∧ w'.cell? ⟨w.heap.size, 3, none⟩ = some (.int .i64 xt) ∧ w'.cell? ⟨w.heap.size, 4, none⟩ = some (.string xb) ∧ w'.cell? ⟨w.heap.size, 5, none⟩ = some (.bool xw))
                            (first | (go_split_ands; exact ⟨d0, d1, d2, d3, d4, d5⟩) | (go_keep; done))
                            ((go_at_call 19; refine (block_any _ _ _ _ _ _ _ ni' HBLK.out).mono ?_; rintro e w8 ⟨rfl, hb⟩; have HBX := Lib.hid (HBX.out.later hb); have HBJ := Lib.hid (HBJ.out.trans (hb.mono HBJ.out.size)); clear hb; obtain ⟨d0, d1, d2, d3, d4, d5⟩ := HBX.out.c))
                          all_goals
                            go_wp2_with fail
                            go_roundw
                            case rel => exact ⟨k + 1, by go_num, by omega, HBJ.out⟩
                            case measure => simp only [intOf]; omega
                        · exact absurd rfl heq
                      · have hk64' : k = 64 := by omega
                        have h64 : decide ((k : Int) < 64) = false := by simp; omega
                        have HEX := Lib.hid (HLF.out.behind hk (.inl hk64'))
                        have e1 : wr.cell? ⟨g, i, none⟩ = some (.string bi) := by rw [OW.out.cellAt i (by omega)]; simp [strs, HBI0.out]
                        have hxx : ((ni'.extract k ni'.size).toList == (bi.extract k bi.size).toList) = true := by rw [HEX.out]; simp
                        clear d0 d1 d2 d3 d4 d5 hk64 hk64'
                        go_wp2_with fail
                        go_quiet (fail)
                        go_wp2_with fail
                        go_quiet (fail)
                        go_wp2_with fail
                        go_roundw
                        case rel => exact ⟨i + 1, by go_num, by omega, HBE.out.trans (Below.mono (⟨HBJ.out.os, HBJ.out.tape, HBJ.out.output, HBJ.out.size, HBJ.out.block⟩) HBE.out.size)⟩
                        case measure => simp only [intOf]; omega
                  · have hf0b : (f == 0) = false := by simpa using hf0
                    clear hfar hbi hni hn1 hleft hbi' hf0 hxa hf1
                    go_wp2_with fail
                    refine (read_ok S G j i s2 _ HST.out hij _ HNI.out).mono ?_
                    rintro e w6 ⟨rfl, rfl⟩
                    go_wp2_with fail
                    clear d0 d1 d2 d3 d4 d5 e1
                    obtain ⟨wb, rfl⟩ : ∃ wb : World, wb = wr := ⟨_, rfl⟩
                    go_loopw [20] (fun v wi => ∃ k : Nat, v = .int .i64 (k : Int) ∧ k ≤ 64 ∧ Below wb.heap.size wb wi) (fun v _ => 64 - (intOf v).toNat)
                    case atStart => exact ⟨0, rfl, by omega, Below.refl _ _⟩
                    case round =>
                      obtain ⟨k, rfl, hk, hbi⟩ := hrel
                      have HBX := Lib.hid (HBX.out.later hbi)
                      have HST := Lib.hid (HST.out.later hbi)
                      have OW := Lib.hid (own_fr OW.out (Fr.later (S := fun _ => False) hbi) (by simp))
                      have HBJ := Lib.hid hbi
                      clear hbi
                      obtain ⟨d0, d1, d2, d3, d4, d5⟩ := HBX.out.c
                      have k0 : (0 : Int) ≤ (k : Int) := Int.natCast_nonneg _
                      have kn : (k : Int) ≤ (ni'.size : Int) := by omega
                      have kb : (k : Int) ≤ (bi.size : Int) := by omega
                      by_cases hk64 : k < 64
                      · have kn2 : (k : Int) < (ni'.size : Int) := by omega
                        have kb2 : (k : Int) < (blk.size : Int) := by omega
                        have kn3 : k < ni'.size := by omega
                        have kb3 : k < blk.size := by omega
                        have h64 : decide ((k : Int) < 64) = true := by simp; omega
                        have HBX := Lib.hid HBX.out.drew
                        have HBJ := Lib.hid HBJ.out.drew
                        by_cases heq : ni'[k] = blk[k]
                        · have heb : ((ni'[k].toNat : Int) == (blk[k].toNat : Int)) = true := by rw [heq]; simp
                          clear heq hk64
                          go_wp2_with fail
                          go_region_held3 (fun w' => w'.cell? ⟨w.heap.size, 0, none⟩ = some (.int .i64 xd) ∧ w'.cell? ⟨w.heap.size, 1, none⟩ = some (.int .i64 xa) ∧ w'.cell? ⟨w.heap.size, 2, none⟩ = some (.int .i64 xn) ∧ w'.cell? ⟨w.heap.size, 3, none⟩ = some (.int .i64 xt) ∧ w'.cell? ⟨w.heap.size, 4, none⟩ = some (.string xb) ∧ w'.cell? ⟨w.heap.size, 5, none⟩ = some (.bool xw))
                            (first | (go_split_ands; exact ⟨d0, d1, d2, d3, d4, d5⟩) | (go_keep; done))
                            ((go_at_call 19; refine (block_any _ _ _ _ _ _ _ blk HBLK.out).mono ?_; rintro e w8 ⟨rfl, hb⟩; have HBX := Lib.hid (HBX.out.later hb); have HBJ := Lib.hid (HBJ.out.trans (hb.mono HBJ.out.size)); clear hb; obtain ⟨d0, d1, d2, d3, d4, d5⟩ := HBX.out.c))
                          all_goals
                            go_wp2_with fail
                            go_roundw
                            case rel => exact ⟨k + 1, by go_num, by omega, HBJ.out⟩
                            case measure => simp only [intOf]; omega
                        · have heb : ((ni'[k].toNat : Int) == (blk[k].toNat : Int)) = false := by
                            simp
                            intro h
                            exact heq (UInt8.toNat_inj.1 (by omega))
                          have HEX := Lib.hid (HLF.out.behind hk (.inr ⟨kn3, kb3, heq⟩))
                          clear heq hk64
                          go_wp2_with fail
                          go_region_held3 (fun w' => w'.cell? ⟨w.heap.size, 0, none⟩ = some (.int .i64 xd) ∧ w'.cell? ⟨w.heap.size, 1, none⟩ = some (.int .i64 xa) ∧ w'.cell? ⟨w.heap.size, 2, none⟩ = some (.int .i64 xn) ∧ w'.cell? ⟨w.heap.size, 3, none⟩ = some (.int .i64 xt) ∧ w'.cell? ⟨w.heap.size, 4, none⟩ = some (.string xb) ∧ w'.cell? ⟨w.heap.size, 5, none⟩ = some (.bool xw))
                            (first | (go_split_ands; exact ⟨d0, d1, d2, d3, d4, d5⟩) | (go_keep; done))
                            ((go_at_call 19; refine (block_any _ _ _ _ _ _ _ blk HBLK.out).mono ?_; rintro e w8 ⟨rfl, hb⟩; have HBX := Lib.hid (HBX.out.later hb); have OW := Lib.hid (own_fr OW.out.drew (Fr.later (S := fun _ => False) hb) (by simp)); have HBJ := Lib.hid (HBJ.out.trans (hb.mono HBJ.out.size)); clear hb; obtain ⟨d0, d1, d2, d3, d4, d5⟩ := HBX.out.c))
                          all_goals
                            clear d0 d1 d2 d3 d4 d5
                            have e1 : w8.cell? ⟨g, i, none⟩ = some (.string bi) := by rw [OW.out.cellAt i (by omega)]; simp [strs, HBI0.out]
                            have hxx : ((ni'.extract k ni'.size).toList == (bi.extract k bi.size).toList) = true := by rw [HEX.out]; simp
                            go_wp2_with fail
                            go_quiet (fail)
                            go_wp2_with fail
                            go_roundw
                            case rel => exact ⟨i + 1, by go_num, by omega, HBE.out.trans (Below.mono (⟨HBJ.out.os, HBJ.out.tape, HBJ.out.output, HBJ.out.size, HBJ.out.block⟩) HBE.out.size)⟩
                            case measure => simp only [intOf]; omega
                      · have hk64' : k = 64 := by omega
                        have h64 : decide ((k : Int) < 64) = false := by simp; omega
                        have HEX := Lib.hid (HLF.out.behind hk (.inl hk64'))
                        have e1 : wr.cell? ⟨g, i, none⟩ = some (.string bi) := by rw [OW.out.cellAt i (by omega)]; simp [strs, HBI0.out]
                        have hxx : ((ni'.extract k ni'.size).toList == (bi.extract k bi.size).toList) = true := by rw [HEX.out]; simp
                        clear d0 d1 d2 d3 d4 d5 hk64 hk64'
                        go_wp2_with fail
                        go_quiet (fail)
                        go_wp2_with fail
                        go_quiet (fail)
                        go_wp2_with fail
                        go_roundw
                        case rel => exact ⟨i + 1, by go_num, by omega, HBE.out.trans (Below.mono (⟨HBJ.out.os, HBJ.out.tape, HBJ.out.output, HBJ.out.size, HBJ.out.block⟩) HBE.out.size)⟩
                        case measure => simp only [intOf]; omega
              · obtain rfl : i = j := by omega
                have hmany := SS.write_many s xa blk
                rw [HWR.out] at hmany
                dsimp only at hmany
                have hm0 := HK.out.many0
                have hm1 := HK.out.many
                have HBF := Lib.hid (HBO.out.trans (HBE.out.mono HBO.out.size))
                clear d0 d1 d2 d3 d4 d5
                by_cases hf0 : f = 0
                · have hM := Lib.hid (hmany.1 hf0)
                  have hf0b : (f == 0) = true := by simpa using hf0
                  have hf1b : (f != 0) = false := by simpa using hf0
                  have hwm : ((s.many + 1) == (s.many + 1)) = true := by simp
                  clear hmany hf0
                  go_wp2_with fail
                  refine (writes_any S G i s2 _ HST.out).mono ?_
                  rintro e w6 ⟨rfl, rfl⟩
                  rw [hM.out]
                  go_wp2_with fail
                  go_ret
                  exact ⟨rfl, HB0.out.trans (HBF.out.mono HB0.out.size)⟩
                · have hM := Lib.hid (hmany.2 hf0)
                  have hf0b : (f == 0) = false := by simpa using hf0
                  have hf1b : (f != 0) = true := by simpa using hf0
                  clear hmany hf0
                  go_wp2_with fail
                  refine (writes_any S G i s2 _ HST.out).mono ?_
                  rintro e w6 ⟨rfl, rfl⟩
                  rw [hM.out]
                  go_wp2_with fail
                  go_ret
                  exact ⟨rfl, HB0.out.trans (HBF.out.mono HB0.out.size)⟩
end Go.Proofs.Ytdapcahphaldjaa.Store
