/- The walk of the law AccountEven. -/
import Derived.Test.YtmijcgcppankcaaAcctU
namespace Go.Proofs.Ytmijcgcppankcaa.AC
open Go.RowKit Go.Proofs.Ytmijcgcppankcaa.Cents Go.Proofs.Ytmijcgcppankcaa.MV Go.Proofs.Ytmijcgcppankcaa.Net Go.Proofs.Ytmijcgcppankcaa.CO
open Go.Maps (Keyed)
set_option linter.unusedVariables false
set_option linter.unusedSimpArgs false

theorem two_put {base T : Nat} {w w6 : World} {o : Obj} {v1 v2 v' : Value} {n1 n2 g : Nat} {xs1 xs2 : List Value} (h1 : w.ownsRow base T 1 v1 n1 xs1) (h2 : w.ownsRow base T 1 v2 n2 xs2) (ap : ∀ q, v1.ownBlock = some q → v2.ownBlock ≠ some q)
    (hg : (w.alloc o).grownBy w6 v1.ownBlock) (hv : v'.ownBlock = some g) (hat : v1.ownBlock = some g ∨ g = (w.alloc o).heap.size) : w6.ownsRow base T 1 v2 n2 xs2 ∧ ∀ q, v'.ownBlock = some q → v2.ownBlock ≠ some q := by
  refine ⟨own_grown (own_below h2 (alloc1 w o)) hg (fun q hq e => ap q e.symm hq), fun q hq hq2 => ?_⟩
  rw [hv] at hq
  injection hq with hq
  subst hq
  rcases hat with h | h
  · exact ap g h hq2
  · have := (h2.lt g hq2).2
    simp at h
    omega
/-- In the loop over the accounts. -/
structure EvlW (per : Nat) (s : St) (k : Int) (q : Nat) (wl : World) (j : Nat) (al bl : List Int) (v1 v2 : Value) (fb : Bool) (w : World) : Prop where
  be : Below wl.heap.size wl w
  o1 : w.ownsRow wl.heap.size 2 1 v1 j (ints al)
  o2 : w.ownsRow wl.heap.size 2 1 v2 j (ints bl)
  ap : ∀ g, v1.ownBlock = some g → v2.ownBlock ≠ some g
  la : al.length = j
  lb : bl.length = j
  ia : ∀ x ∈ al, I64 x
  ib : ∀ x ∈ bl, I64 x
  sa : fb = true → al.sum = sumF j (fun i => totS per s.es (i : Int) q)
  sb : bl.sum = sumF j (fun i => balR per s.es (i : Int) k (q : Int))
theorem ints_snoc (l : List Int) (x : Int) : ints (l ++ [x]) = ints l ++ [.int .i64 x] := by simp [ints]
theorem evl_no (x : Int) (A : Option Addr) (ops : List OpV) (c : Nat) (k : Int) (W : World) (hx : I64 x) (hQ : ∀ o ∈ ops, o.Q W) (hr : Row W 0 A (ops.flatMap OpV.cell)) (hl : ops.length ≤ maxLen) (h : largeB x ops = true ∨ newE x ≠ 0) :
    Calls Try.prog 4 #[.int .i64 x, .slice A ops.length c, .int .i64 k] W fun e w' => e = .returned (.bool true) ∧ Below W.heap.size W w' := by
  have HL := Lib.hid (fun w1 (hb : Below W.heap.size W w1) b hb2 => large_is x A ops c w1 hx (hr.below hb) (fun o ho => (hQ o ho).l) hl b hb2)
  clear hQ hr hl
  cases hB : largeB x ops with
  | true =>
    have HB := Lib.hid hB
    clear hB h
    generalize ops.length = n at *
    go_enter Try.func4, Try.ntmps4
    go_wp2_with fail
    refine (awake09 _).mono ?_
    rintro e w1 ⟨rfl, hb⟩
    have HB1 := Lib.hid hb
    clear hb
    go_wp2_with fail
    refine (HL.out _ HB1.out true HB.out).mono ?_
    rintro e w2 ⟨rfl, rfl⟩
    go_wp2_with fail
    go_ret
    exact ⟨rfl, HB1.out⟩
  | false =>
    have hne : newE x ≠ 0 := h.resolve_left (by rw [hB]; decide)
    have HNO := Lib.hid (fun w1 => new_no x w1 hx hne)
    have HB := Lib.hid hB
    clear hB h hne
    generalize ops.length = n at *
    go_enter Try.func4, Try.ntmps4
    go_wp2_with fail
    refine (awake09 _).mono ?_
    rintro e w1 ⟨rfl, hb⟩
    have HB1 := Lib.hid hb
    clear hb
    go_wp2_with fail
    refine (HL.out _ HB1.out false HB.out).mono ?_
    rintro e w2 ⟨rfl, rfl⟩
    go_wp2_with fail
    refine (HNO.out _).mono ?_
    rintro e w3 ⟨rfl, hb⟩
    have HB2 := Lib.hid (HB1.out.trans (hb.mono HB1.out.size))
    clear hb
    go_wp2_with fail
    go_ret
    exact ⟨rfl, HB2.out⟩
theorem large_no {x : Int} {ops : List OpV} (h : largeB x ops = false) : (∀ o ∈ ops, o.ps.length ≤ 40) ∧ ops.length ≤ 24 := by
  unfold largeB at h
  rw [Bool.or_eq_false_iff, List.any_eq_false, decide_eq_false_iff_not] at h
  refine ⟨fun o ho => ?_, ?_⟩
  · have := h.1 o ho
    simp at this
    exact this
  · have := h.2
    unfold bigP at this
    omega
set_option maxHeartbeats 8000000 in
set_option maxRecDepth 100000 in
theorem evl_go (x : Int) (A : Option Addr) (ops : List OpV) (c : Nat) (k : Int) (W : World) (hx : I64 x) (hQ : ∀ o ∈ ops, o.Q W) (hr : Row W 0 A (ops.flatMap OpV.cell)) (hl : ops.length ≤ maxLen) (hk : I64 k) (hB : largeB x ops = false) (hne : newE x = 0) :
    Calls Try.prog 4 #[.int .i64 x, .slice A ops.length c, .int .i64 k] W fun e w' => e = .returned (.bool true) ∧ Below W.heap.size W w' := by
  obtain ⟨h40, h24⟩ := large_no hB
  have HLA := Lib.hid (fun w1 (hb : Below W.heap.size W w1) => large_is x A ops c w1 hx (hr.below hb) (fun o ho => (hQ o ho).l) hl false hB)
  have HNO := Lib.hid (fun w1 => new_led x w1 hx hne)
  have HQ := Lib.hid hQ
  have HR := Lib.hid hr
  have H40 := Lib.hid h40
  obtain ⟨n, hn⟩ : ∃ n, ops.length = n := ⟨_, rfl⟩
  rw [hn] at HLA h24 ⊢
  have HN := Lib.hid hn
  clear hQ hr hl hB hne h40 hn
  go_enter Try.func4, Try.ntmps4
  go_wp2_with fail
  refine (awake09 _).mono ?_
  rintro e w1 ⟨rfl, hb⟩
  have HB1 := Lib.hid hb
  clear hb
  go_wp2_with fail
  refine (HLA.out _ HB1.out).mono ?_
  rintro e w2 ⟨rfl, rfl⟩
  go_wp2_with fail
  refine (HNO.out _).mono ?_
  rintro e w3 ⟨L, per, rfl, rfl, hL, hP, hb⟩
  obtain ⟨b0, hb0⟩ : ∃ b0, w1.heap.size = b0 := ⟨_, rfl⟩
  have hWb : W.heap.size ≤ b0 := by have := HB1.out.size; omega
  rw [hb0] at hL
  have HL3 := Lib.hid hL
  have HP3 := Lib.hid hP
  have HB3 := Lib.hid (HB1.out.trans (hb.mono HB1.out.size))
  have hper1 := hP.per1
  have hper2 := hP.per2
  clear hb hL hP hb0 HNO HLA
  go_wp2_with fail
  go_loopw [40] (fun v wr => ∃ (j : Nat) (s : St), v = .int .i64 (j : Int) ∧ j ≤ n ∧ Led b0 L per s wr ∧ LedP per s ∧ Below W.heap.size W wr) (fun v _ => n - (intOf v).toNat)
  case atStart => exact ⟨0, ⟨0, []⟩, rfl, by omega, HL3.out, HP3.out, HB3.out⟩
  case round =>
    clear HL3 HP3 HB3
    obtain ⟨j, s, rfl, hj, hLr, hPr, hbr⟩ := hrel
    have g0 : (0 : Int) ≤ (j : Int) := Int.natCast_nonneg _
    by_cases hlt : j < n
    · have hjl : j < ops.length := by rw [HN.out]; exact hlt
      obtain ⟨ad, rfl, c0, c1, c2, c3⟩ := op_cells (HR.out.below hbr) hjl
      have hm : ops[j] ∈ ops := List.getElem_mem _
      obtain ⟨o, ho⟩ : ∃ o, o = ops[j] := ⟨_, rfl⟩
      rw [← ho] at c0 c1 c2 c3 hm
      have hoQ := (HQ.out o hm)
      have ho40 := H40.out o hm
      have hal := fun ob => alloc1 wr ob
      have HD := Lib.hid (fun ob => do_led (hLr.later (hal ob)) hPr o ((show o.Q (wr.alloc ob) from ⟨hoQ.d, hoQ.p, hoQ.e, (hoQ.r.below hbr).below (hal ob), hoQ.i, hoQ.l⟩)) (by omega))
      have HMA := Lib.hid (fun ob => many_led (hLr.later (hal ob)))
      have HOP := Lib.hid (fun ob => open_led (hLr.later (hal ob)))
      have HBA := Lib.hid (fun ob => hbr.trans ((hal ob).mono hbr.size))
      have HP2 := Lib.hid (ledp_op (o := o) hPr hoQ.i)
      have HSB := Lib.hid (fun h => oS_bad (per := per) (s := s) (o := o) h)
      have g1 : (j : Int) < (n : Int) := by omega
      clear hLr hPr hbr hm hoQ ho40 hal ho
      obtain ⟨od, op, oe, oA, oc, ops2⟩ := o
      unfold OpV.val at HD
      dsimp only at HD c0 c1 c2 c3
      obtain ⟨m, hm⟩ : ∃ m, ops2.length = m := ⟨_, rfl⟩
      rw [hm] at HD c3
      clear hm
      go_wp2_with fail
      refine (HMA.out _).mono ?_
      rintro e w5 ⟨rfl, rfl⟩
      go_wp2_with fail
      refine (HOP.out _).mono ?_
      rintro e w5 ⟨rfl, rfl⟩
      go_wp2_with fail
      refine (HD.out _).mono ?_
      rintro e w6 ⟨rfl, hL6, hk6⟩
      have HL6 := Lib.hid hL6
      have HB6 := Lib.hid (hk6.below (HBA.out _) hWb)
      clear hL6 hk6
      by_cases he : oE per s ⟨od, op, oe, oA, oc, ops2⟩ = 0
      · rw [he]
        go_wp2_with fail
        go_roundw
        case rel => exact ⟨j + 1, _, by go_num, by omega, HL6.out, HP2.out, HB6.out⟩
        case measure => simp only [intOf]; omega
      · have hs := HSB.out he
        have hne : (oE per s ⟨od, op, oe, oA, oc, ops2⟩ == 0) = false := by simpa using he
        rw [hs] at HL6 HP2
        have HM6 := Lib.hid (many_led HL6.out)
        have HO6 := Lib.hid (open_led HL6.out)
        generalize oE per s ⟨od, op, oe, oA, oc, ops2⟩ = E at *
        clear hs
        go_wp2_with fail
        refine HM6.out.mono ?_
        rintro e w7 ⟨rfl, rfl⟩
        go_wp2_with fail
        refine HO6.out.mono ?_
        rintro e w7 ⟨rfl, rfl⟩
        go_wp2_with fail
        go_roundw
        case rel => exact ⟨j + 1, s, by go_num, by omega, HL6.out, HP2.out, HB6.out⟩
        case measure => simp only [intOf]; omega
    · obtain rfl : j = n := by omega
      have HLR := Lib.hid hLr
      have HPR := Lib.hid hPr
      have HBR := Lib.hid hbr
      obtain ⟨wl, hwl⟩ : ∃ wl : World, wl = wr := ⟨_, rfl⟩
      rw [← hwl] at HLR HBR ⊢
      clear hLr hPr hbr hwl
      go_wp2_with fail
      go_loopw [15] (fun v wr => ∃ q : Nat, v = .int .i64 (q : Int) ∧ q ≤ per ∧ Below wl.heap.size wl wr) (fun v _ => per - (intOf v).toNat)
      case atStart => exact ⟨0, rfl, by omega, Below.refl _ _⟩
      case round =>
        obtain ⟨q, rfl, hq, hbq⟩ := hrel
        have HBQ := Lib.hid hbq
        have q0 : (0 : Int) ≤ (q : Int) := Int.natCast_nonneg _
        clear hbq
        by_cases hlt : q < per
        · have q1 : (q : Int) < (per : Int) := by omega
          have hqI : I64 (q : Int) := by unfold I64; omega
          go_wp2_with fail
          go_loopw [16, 17, 18, 19] (fun v1 v2 vf vj wr => ∃ (i : Nat) (al bl : List Int) (B1 B2 : Option Addr) (c1 c2 : Nat) (fb : Bool), v1 = .slice B1 i c1 ∧ v2 = .slice B2 i c2 ∧ vf = .bool fb ∧ vj = .int .i64 (i : Int) ∧ i ≤ 4 ∧ EvlW per s k q wl i al bl (.slice B1 i c1) (.slice B2 i c2) fb wr) (fun _ _ _ vj _ => 4 - (intOf vj).toNat)
          case atStart => exact ⟨0, [], [], none, none, 0, 0, true, rfl, rfl, rfl, rfl, by omega, ⟨HBQ.out, World.ownsRow_nil _ _ _ _, World.ownsRow_nil _ _ _ _, fun g hg => (by cases hg), rfl, rfl, by simp, by simp, fun _ => rfl, rfl⟩⟩
          case round =>
            clear HBQ
            obtain ⟨i, al, bl, B1, B2, c1, c2, fb, rfl, rfl, rfl, rfl, hi, hE⟩ := hrel
            have i0 : (0 : Int) ≤ (i : Int) := Int.natCast_nonneg _
            by_cases hi4 : i < 4
            · have i1 : (i : Int) ≤ 3 := by omega
              have hiI : I64 (i : Int) := by unfold I64; omega
              have HT := Lib.hid (total_led (HLR.out.later hE.be) HPR.out (i : Int) (q : Int) _ _ ⟨rfl, rfl⟩)
              have hTI := totN_I per s.es (i : Int) (q : Int)
              have hTO := totN_ok (per := per) (es := s.es) hi4 hlt
              have hBI := balR_I HPR.out hiI hk (q : Int)
              have HBAL := Lib.hid (fun w9 (hb9 : Below wl.heap.size wl w9) => balance_led (HLR.out.later hb9) HPR.out (i : Int) k (q : Int) hiI hk hqI _ rfl)
              have HSA := Lib.hid (show ∀ z, z = totN per s.es (i : Int) (q : Int) → fb = true → totE per s.es (i : Int) (q : Int) = 0 → (al ++ [z]).sum = sumF (i + 1) (fun i => totS per s.es (i : Int) q) from fun z hz h1 h2 => by
                rw [sumF_succ, ← hE.sa h1, List.sum_append, hz, hTO h2]; simp)
              have HSB := Lib.hid (show ∀ z, z = balR per s.es (i : Int) k (q : Int) → (bl ++ [z]).sum = sumF (i + 1) (fun i => balR per s.es (i : Int) k (q : Int)) from fun z hz => by
                rw [sumF_succ, ← hE.sb, List.sum_append, hz]; simp)
              obtain ⟨u, hu⟩ : ∃ u, totN per s.es (i : Int) (q : Int) = u := ⟨_, rfl⟩
              obtain ⟨v, hv⟩ : ∃ v, totE per s.es (i : Int) (q : Int) = v := ⟨_, rfl⟩
              obtain ⟨y, hy⟩ : ∃ y, balR per s.es (i : Int) k (q : Int) = y := ⟨_, rfl⟩
              rw [hu, hv] at HT
              rw [hu, hv] at HSA
              rw [hu] at hTI
              rw [hy] at HBAL HSB hBI
              have HEV := Lib.hid hE
              have HTI := Lib.hid hTI
              have HBI := Lib.hid hBI
              have hb1 : (i + 1) * 8 ≤ 140737488355328 := by omega
              have hb2 : i + 1 ≤ maxLen := by unfold maxLen; omega
              clear hE hTI hTO hBI hu hv hy
              go_wp2_with fail
              refine HT.out.mono ?_
              rintro e w5 ⟨rfl, hb5⟩
              have HB5 := Lib.hid (HEV.out.be.trans (hb5.mono HEV.out.be.size))
              have HO1 := Lib.hid (own_below HEV.out.o1 hb5)
              have HO2 := Lib.hid (own_below HEV.out.o2 hb5)
              have hsz5 : wl.heap.size ≤ w5.heap.size := HB5.out.size
              clear hb5
              have hsplit : fb = false ∨ fb = true ∧ v = 0 ∨ fb = true ∧ (v == 0) = false := by
                cases fb with
                | false => exact .inl rfl
                | true => by_cases h : v = 0
                          · exact .inr (.inl ⟨rfl, h⟩)
                          · exact .inr (.inr ⟨rfl, by simpa using h⟩)
              rcases hsplit with rfl | ⟨rfl, rfl⟩ | ⟨rfl, hvf⟩
              all_goals
                go_wp2_with (at_builtin; refine wpList_app E_i64 rfl (.tmp 90) (.tmp 92) rfl rfl (HO1.out.alloc _) ⟨w5.heap.size, 0, none⟩ 1 1 [.int .i64 u] rfl rfl (World.news_of_block (heap_alloc_new w5 _)) (by simp [Value.oneCell']) hb1 hb2 (by simp; omega) (by decide) ?_; intro g6 cap6 w6 hown6 hg6 hat6; have HO6 := Lib.hid hown6; have HB6 := Lib.hid ((HB5.out.alloc HB5.out.size (.cells #[.int .i64 u] 2)).grown hg6 (by simp; omega) (fun j hj => (HO1.out.lt j hj).1)); have HT6 := Lib.hid (two_put HO1.out HO2.out HEV.out.ap hg6 (v' := .slice (some ⟨g6, 0, none⟩) (i + 1) cap6) rfl hat6); clear hown6 hg6 hat6)
                refine (HBAL.out _ HB6.out).mono ?_
                rintro e w7 ⟨rfl, hb7⟩
                have HB7 := Lib.hid (HB6.out.trans (hb7.mono HB6.out.size))
                have HO7 := Lib.hid (own_below HO6.out hb7)
                have HT7 := Lib.hid (own_below HT6.out.1 hb7)
                have hsz7 : wl.heap.size ≤ w7.heap.size := HB7.out.size
                clear hb7
                go_wp2_with (at_builtin; refine wpList_app E_i64 rfl (.tmp 94) (.tmp 100) rfl rfl (HT7.out.alloc _) ⟨w7.heap.size, 0, none⟩ 1 1 [.int .i64 y] rfl rfl (World.news_of_block (heap_alloc_new w7 _)) (by simp [Value.oneCell']) hb1 hb2 (by simp; omega) (by decide) ?_; intro g8 cap8 w8 hown8 hg8 hat8; have HO8 := Lib.hid hown8; have HB8 := Lib.hid ((HB7.out.alloc HB7.out.size (.cells #[.int .i64 y] 2)).grown hg8 (by simp; omega) (fun j hj => (HT7.out.lt j hj).1)); have HT8 := Lib.hid (two_put HT7.out HO7.out (fun z h1 h2 => HT6.out.2 z h2 h1) hg8 (v' := .slice (some ⟨g8, 0, none⟩) (i + 1) cap8) rfl hat8); clear hown8 hg8 hat8)
                go_roundw
                case rel =>
                  refine ⟨i + 1, al ++ [u], bl ++ [y], _, _, _, _, _, rfl, rfl, rfl, by go_num, by omega, ⟨HB8.out, ?_, ?_, fun z h1 h2 => HT8.out.2 z h2 h1, by rw [List.length_append, HEV.out.la]; rfl, by rw [List.length_append, HEV.out.lb]; rfl, fun z hz => ?_, fun z hz => ?_, ?_, HSB.out y rfl⟩⟩
                  · rw [ints_snoc]; exact HT8.out.1
                  · rw [ints_snoc]; exact HO8.out
                  · rcases List.mem_append.1 hz with h | h
                    · exact HEV.out.ia z h
                    · rw [List.mem_singleton.1 h]; exact HTI.out
                  · rcases List.mem_append.1 hz with h | h
                    · exact HEV.out.ib z h
                    · rw [List.mem_singleton.1 h]; exact HBI.out
                  · intro h
                    first | (cases h; done) | exact HSA.out u (by simp) (by simp) (by simp)
                case measure => simp only [intOf]; omega
            · obtain rfl : i = 4 := by omega
              have hs2 := hE.sb
              rw [balR_four HPR.out k hlt] at hs2
              have hsa : fb = true → al.sum = 0 := fun h => by rw [hE.sa h, totS_four HPR.out hlt]
              have hr1 : Row wr 0 B1 (ints al) := (Row.of_own hE.o1 (by decide)).weak (Nat.zero_le _)
              have hr2 : Row wr 0 B2 (ints bl) := (Row.of_own hE.o2 (by decide)).weak (Nat.zero_le _)
              have h1 := sum_is B1 al c1 wr _ _ hE.ia hr1 (by rw [hE.la]; omega) ⟨rfl, rfl⟩
              have h2 := fun w9 (hb9 : Below wr.heap.size wr w9) => sum_is B2 bl c2 w9 0 0 hE.ib (hr2.below hb9) (by rw [hE.lb]; omega) (by rw [hs2]; exact ⟨by decide, by decide⟩)
              rw [hE.la] at h1
              rw [hE.lb] at h2
              have HS1 := Lib.hid h1
              have HS2 := Lib.hid h2
              have HBE := Lib.hid hE.be
              have hfb : fb = false ∨ fb = true ∧ sumN al.sum = 0 ∧ sumE al.sum = 0 := by
                cases fb with
                | false => exact .inl rfl
                | true => exact .inr ⟨rfl, by rw [hsa rfl]; decide, by rw [hsa rfl]; decide⟩
              obtain ⟨u, hu⟩ : ∃ u, sumN al.sum = u := ⟨_, rfl⟩
              obtain ⟨v, hv⟩ : ∃ v, sumE al.sum = v := ⟨_, rfl⟩
              rw [hu, hv] at HS1 hfb
              clear hE hs2 hsa hr1 hr2 h1 h2 hu hv
              rcases hfb with rfl | ⟨rfl, rfl, rfl⟩
              all_goals
                go_wp2_with fail
                refine HS1.out.mono ?_
                rintro e w5 ⟨rfl, hb5⟩
                have HB5 := Lib.hid hb5
                clear hb5
                go_wp2_with fail
                refine (HS2.out _ HB5.out).mono ?_
                rintro e w6 ⟨rfl, hb6⟩
                have HB6 := Lib.hid (HBE.out.trans ((HB5.out.trans (hb6.mono HB5.out.size)).mono HBE.out.size))
                clear hb6
                go_wp2_with fail
                go_roundw
                case rel => exact ⟨q + 1, by go_num, by omega, HB6.out⟩
                case measure => simp only [intOf]; omega
        · obtain rfl : q = per := by omega
          go_wp2_with fail
          go_ret
          exact ⟨rfl, HBR.out.trans (HBQ.out.mono HBR.out.size)⟩
theorem even_walk (x : Int) (A : Option Addr) (ops : List OpV) (c : Nat) (k : Int) (W : World) (hx : I64 x) (hQ : ∀ o ∈ ops, o.Q W) (hr : Row W 0 A (ops.flatMap OpV.cell)) (hsz : ops.length * 48 ≤ 140737488351232) (hk : I64 k) :
    Calls Try.prog 4 #[.int .i64 x, .slice A ops.length c, .int .i64 k] W fun e w' => e = .returned (.bool true) ∧ Below W.heap.size W w' := by
  have hl : ops.length ≤ maxLen := by unfold maxLen; omega
  cases hB : largeB x ops with
  | true => exact evl_no x A ops c k W hx hQ hr hl (.inl hB)
  | false =>
    by_cases hne : newE x = 0
    · exact evl_go x A ops c k W hx hQ hr hl hk hB hne
    · exact evl_no x A ops c k W hx hQ hr hl (.inr hne)
end Go.Proofs.Ytmijcgcppankcaa.AC
