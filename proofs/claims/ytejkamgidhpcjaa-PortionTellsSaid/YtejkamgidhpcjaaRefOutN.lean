/- The walk of the reference's Out, of any total. -/
import Derived.Test.YtejkamgidhpcjaaRefOut
namespace Go.Proofs.Ytejkamgidhpcjaa.PO
open Go.RowKit Go.Proofs.Ytejkamgidhpcjaa.Cents Go.Proofs.Ytejkamgidhpcjaa.CO Go.Proofs.Ytejkamgidhpcjaa.Exact
set_option linter.unusedVariables false
set_option linter.unusedSimpArgs false

theorem outE_full {T : Int} {ws : List Int} (h : 64 < ws.length) : outE T ws = 4 := by unfold outE wE; simp [h]
theorem outE_neg {T : Int} {ws : List Int} {k : Nat} (h : ¬ 64 < ws.length) (hk : k < ws.length) (hx : ws.getD k 0 < 0) : outE T ws = 1 := by
  have h1 : ws.any (fun x => decide (x < 0)) = true := by
    rw [List.any_eq_true]
    exact ⟨_, List.getElem_mem hk, by rw [List.getD_eq_getElem?_getD, List.getElem?_eq_getElem hk] at hx; simpa using hx⟩
  unfold outE wE
  rw [if_neg h, if_pos h1]
  simp
theorem outE_none {T : Int} {ws : List Int} (h : ¬ 64 < ws.length) (h1 : ws.any (fun x => decide (x < 0)) = false) (h2 : ws.any (fun x => decide (0 < x)) = false) : outE T ws = 1 := by
  unfold outE wE
  rw [if_neg h, h1, h2]
  simp
theorem outE_over {T : Int} {ws : List Int} (h : ¬ 64 < ws.length) (h1 : ws.any (fun x => decide (x < 0)) = false) (h2 : ws.any (fun x => decide (0 < x)) = true) (h3 : ¬ I64 ws.sum) : outE T ws = 3 := by
  unfold outE wE sumE
  rw [if_neg h, h1, h2, if_neg h3]
  simp
theorem outE_low {T : Int} {ws : List Int} (h : ¬ 64 < ws.length) (h1 : ws.any (fun x => decide (x < 0)) = false) (h2 : ws.any (fun x => decide (0 < x)) = true) (h3 : I64 ws.sum) : outE T ws = if T = -9223372036854775808 then 3 else 0 := by
  unfold outE wE sumE
  rw [if_neg h, h1, h2, if_pos h3]
  simp
theorem fit_no {n : Int} (h : ¬ I64 n) : fitN n = 0 ∧ fitE n = 3 := by unfold fitN fitE; rw [if_neg h, if_neg h]; exact ⟨rfl, rfl⟩

set_option maxHeartbeats 2000000 in
set_option maxRecDepth 100000 in
theorem rout_bad (T : Int) (A : Option Addr) (ws : List Int) (c : Nat) (w : World) (hT : I64 T) (hx : ∀ x ∈ ws, I64 x) (hr : Row w 0 A (ints ws)) (hl : ws.length * 8 ≤ 140737488351232) (e0 : Int) (he : outE T ws = e0) (hne : e0 ≠ 0) :
    Calls Try.prog 18 #[.int .i64 T, .slice A ws.length c] w (RetL w [] e0) := by
  by_cases h64 : 64 < ws.length
  · rw [outE_full h64] at he
    subst he
    generalize ws.length = n at *
    have h2 : decide ((64 : Int) < (n : Int)) = true := by simp; omega
    clear hx hr
    go_enter Try.func18, Try.ntmps18
    go_wp2_with fail
    go_ret2
    exact ⟨none, 0, rfl, Row.none_, by simp, Below.refl _ _⟩
  have HNEG := Lib.hid (fun k (hk : k < ws.length) (hx : ws.getD k 0 < 0) => he.symm.trans (outE_neg (T := T) h64 hk hx))
  have HNONE := Lib.hid (fun h1 h2 => he.symm.trans (outE_none (T := T) (ws := ws) h64 h1 h2))
  have HOVER := Lib.hid (fun h1 h2 h3 => he.symm.trans (outE_over (T := T) (ws := ws) h64 h1 h2 h3))
  have HLOW := Lib.hid (fun h1 h2 h3 => he.symm.trans (outE_low (T := T) (ws := ws) h64 h1 h2 h3))
  have HR := Lib.hid hr
  have HX := Lib.hid hx
  have HT := Lib.hid hT
  obtain ⟨n, hn⟩ : ∃ n, ws.length = n := ⟨_, rfl⟩
  have HN := Lib.hid hn
  rw [hn] at hl h64 ⊢
  have h2 : decide ((64 : Int) < (n : Int)) = false := by simp; omega
  clear hr hx hT he hn
  go_enter Try.func18, Try.ntmps18
  go_wp2_with fail
  go_loop [6, 7] (fun b i => ∃ (k : Nat), b = .bool ((ws.take k).any (fun x => decide (0 < x))) ∧ i = .int .i64 (k : Int) ∧ k ≤ n ∧ (ws.take k).any (fun x => decide (x < 0)) = false) (fun _ i => n - (intOf i).toNat)
  case atStart => exact ⟨0, by simp, rfl, by omega, by simp⟩
  case round =>
    obtain ⟨k, rfl, rfl, hk, hnn⟩ := hrel
    have HNN := Lib.hid hnn
    clear hnn
    have g0 : (0 : Int) ≤ (k : Int) := Int.natCast_nonneg _
    by_cases hlt : k < n
    · obtain ⟨ad, rfl, c0⟩ := int_cell HR.out (j := k) (by rw [HN.out]; exact hlt)
      have g1 : (k : Int) < (n : Int) := by omega
      have htk := take_anyb (P := fun x => decide (0 < x)) (xs := ws) (j := k) (by rw [HN.out]; exact hlt)
      have htn := take_anyb (P := fun x => decide (x < 0)) (xs := ws) (j := k) (by rw [HN.out]; exact hlt)
      have hng := HNEG.out k (by rw [HN.out]; exact hlt)
      obtain ⟨x, hxx⟩ : ∃ x, ws.getD k 0 = x := ⟨_, rfl⟩
      rw [hxx] at c0 htk htn hng
      rw [HNN.out] at htn
      have HTK := Lib.hid htk
      have HTN := Lib.hid htn
      have HNG := Lib.hid hng
      obtain ⟨b, hb⟩ : ∃ b, (ws.take k).any (fun x => decide (0 < x)) = b := ⟨_, rfl⟩
      rw [hb] at HTK
      rw [hb]
      clear hb hxx htk htn hng
      by_cases f0 : x < 0
      · have f1 : decide (x < 0) = true := by simp; exact f0
        have he1 := HNG.out f0
        subst he1
        go_wp2_with fail
        go_ret2
        exact ⟨none, 0, rfl, Row.none_, by simp, Below.refl _ _⟩
      have f1 : decide (x < 0) = false := by simp; omega
      have HTN2 := Lib.hid (show (ws.take (k + 1)).any (fun x => decide (x < 0)) = false by rw [HTN.out]; simp; omega)
      cases b
      · by_cases f2 : 0 < x
        · go_wp2_with fail
          go_round
          case rel => exact ⟨k + 1, by rw [HTK.out]; simp; exact f2, by go_num, by omega, HTN2.out⟩
          case measure => simp only [intOf]; omega
        · go_wp2_with fail
          go_round
          case rel => exact ⟨k + 1, by rw [HTK.out]; simp; omega, by go_num, by omega, HTN2.out⟩
          case measure => simp only [intOf]; omega
      · go_wp2_with fail
        go_round
        case rel => exact ⟨k + 1, by rw [HTK.out]; simp, by go_num, by omega, HTN2.out⟩
        case measure => simp only [intOf]; omega
    · obtain rfl : k = n := by omega
      have htk : ws.take k = ws := List.take_of_length_le (by rw [HN.out]; exact Nat.le_refl _)
      rw [htk] at HNN ⊢
      obtain ⟨b, hb⟩ : ∃ b, ws.any (fun x => decide (0 < x)) = b := ⟨_, rfl⟩
      rw [hb]
      have HB := Lib.hid hb
      clear hb htk
      cases b
      · have he1 := HNONE.out HNN.out HB.out
        subst he1
        go_wp2_with fail
        go_ret2
        exact ⟨none, 0, rfl, Row.none_, by simp, Below.refl _ _⟩
      have htot := total_any (fun _ => True) A ws c w (fun _ _ => trivial) HX.out HR.out (by rw [HN.out]; omega)
      obtain ⟨S, hS⟩ : ∃ S, ws.sum = S := ⟨_, rfl⟩
      have HS := Lib.hid hS
      rw [HN.out, hS] at htot
      clear hS
      by_cases hSI : I64 S
      · have hlow := HLOW.out HNN.out HB.out (by rw [HS.out]; exact hSI)
        by_cases hT2 : T = -9223372036854775808
        · rw [if_pos hT2] at hlow
          subst hlow
          have HSI := Lib.hid hSI
          have f5 : (T == -9223372036854775808) = true := by simp; exact hT2
          have HT2 := Lib.hid hT2
          clear hSI hT2
          go_wp2_with fail
          refine htot.mono ?_
          rintro e w1 ⟨v1, rfl, x1, b1⟩
          have X1 := Lib.hid x1
          have HL := Lib.hid (show Later w w1 from b1)
          clear x1 b1 htot
          go_wp2_with fail
          refine (fit_is _ S (k + 7) _ X1.out (by omega) (by omega) S 0 (fit_id HSI.out)).mono ?_
          rintro e w2 ⟨rfl, b2⟩
          have HL := Lib.hid (HL.out.trans b2)
          clear b2
          go_wp2_with fail
          go_ret2
          exact ⟨none, 0, rfl, Row.none_, by simp, HL.out⟩
        · rw [if_neg hT2] at hlow
          exact absurd hlow hne
      · have hover := HOVER.out HNN.out HB.out (by rw [HS.out]; exact hSI)
        subst hover
        have HSI := Lib.hid hSI
        clear hSI
        go_wp2_with fail
        refine htot.mono ?_
        rintro e w1 ⟨v1, rfl, x1, b1⟩
        have X1 := Lib.hid x1
        have HL := Lib.hid (show Later w w1 from b1)
        clear x1 b1 htot
        go_wp2_with fail
        refine (fit_is _ S (k + 7) _ X1.out (by omega) (by omega) 0 3 (fit_no HSI.out)).mono ?_
        rintro e w2 ⟨rfl, b2⟩
        have HL := Lib.hid (HL.out.trans b2)
        clear b2
        go_wp2_with fail
        go_ret2
        exact ⟨none, 0, rfl, Row.none_, by simp, HL.out⟩

theorem all_in {w w2 w3 : World} {out : List Int} {v : Value} (h : AllW w2 out v w3) (hl : Later w w2) : AllW w out v w3 := ⟨⟨h.own.1, h.own.2.imp id fun ⟨g, cap, cur, e, hb, r⟩ => ⟨g, cap, cur, e, Nat.le_trans hl.size hb, r⟩⟩, hl.trans h.be⟩
theorem all_ret {w w' : World} {l : List Int} {v : Value} (h : AllW w l v w') (hn : 1 ≤ l.length) : RetL w l 0 (.returned (.tuple #[v, .int .i64 0])) w' := by
  obtain ⟨g, cap, rfl, hc⟩ := h.form rfl hn
  exact ⟨_, _, rfl, Row.of_own h.own (by decide), hc, h.be⟩

set_option maxHeartbeats 2000000 in
set_option maxRecDepth 100000 in
theorem rout_neg (T : Int) (A : Option Addr) (ws : List Int) (c : Nat) (w : World) (hT : I64 T) (h0 : T < 0) (h1 : T ≠ -9223372036854775808) (hx : ∀ x ∈ ws, I64 x) (hr : Row w 0 A (ints ws)) (hE : wE ws = 0) :
    Calls Try.prog 18 #[.int .i64 T, .slice A ws.length c] w fun e w' => ∃ v, e = .returned (.tuple #[v, .int .i64 0]) ∧ AllW w ((outL (-T) ws.sum ws).map (fun x => -x)) v w' := by
  obtain ⟨hl, hp0, hS1, hSI, hn1⟩ := wE_ok hE
  have hTn : I64 (-T) := by unfold I64 at *; omega
  have HANY := Lib.hid (wE_any hE)
  have HW := Lib.hid (show Wts (-T) ws.sum ws from ⟨by omega, hp0, rfl, hS1⟩)
  have HPOS := Lib.hid (fun w2 (h : Row w2 0 A (ints ws)) => rout_pos (-T) A ws c w2 hTn (by omega) hx h hE)
  have HR := Lib.hid hr
  have HX := Lib.hid hx
  have HT := Lib.hid hT
  have HTN := Lib.hid hTn
  have HP := Lib.hid hp0
  obtain ⟨S, hS⟩ : ∃ S, ws.sum = S := ⟨_, rfl⟩
  have HS := Lib.hid hS
  rw [hS] at hS1 hSI HW HPOS ⊢
  obtain ⟨n, hn⟩ : ∃ n, ws.length = n := ⟨_, rfl⟩
  have HN := Lib.hid hn
  have HSI := Lib.hid hSI
  rw [hn] at hl hn1 HPOS ⊢
  have h2 : decide ((64 : Int) < (n : Int)) = false := by simp; omega
  have h3 : (T == -9223372036854775808) = false := by simp; omega
  have h4 : decide (T < 0) = true := by simp; omega
  have h5 : IntKind.i64.wrap (-T) = -T := IntWalk.i64_in _ (by unfold I64 at hT; omega)
  clear hr hx hT hE hp0 hS hn hSI hTn
  go_enter Try.func18, Try.ntmps18
  go_wp2_with fail
  go_loop [6, 7] (fun b i => ∃ (k : Nat), b = .bool ((ws.take k).any (fun x => decide (0 < x))) ∧ i = .int .i64 (k : Int) ∧ k ≤ n) (fun _ i => n - (intOf i).toNat)
  case atStart => exact ⟨0, by simp, rfl, by omega⟩
  case round =>
    obtain ⟨k, rfl, rfl, hk⟩ := hrel
    have g0 : (0 : Int) ≤ (k : Int) := Int.natCast_nonneg _
    by_cases hlt : k < n
    · obtain ⟨ad, rfl, c0⟩ := int_cell HR.out (j := k) (by rw [HN.out]; exact hlt)
      have g1 : (k : Int) < (n : Int) := by omega
      have hx0 := nonneg_get HP.out (k := k) (by rw [HN.out]; exact hlt)
      have htk := take_anyb (P := fun x => decide (0 < x)) (xs := ws) (j := k) (by rw [HN.out]; exact hlt)
      obtain ⟨x, hxx⟩ : ∃ x, ws.getD k 0 = x := ⟨_, rfl⟩
      rw [hxx] at c0 hx0 htk
      have HTK := Lib.hid htk
      have f1 : decide (x < 0) = false := by simp; omega
      obtain ⟨b, hb⟩ : ∃ b, (ws.take k).any (fun x => decide (0 < x)) = b := ⟨_, rfl⟩
      rw [hb] at HTK
      rw [hb]
      clear hb hxx htk
      cases b
      · by_cases f2 : 0 < x
        · go_wp2_with fail
          go_round
          case rel => exact ⟨k + 1, by rw [HTK.out]; simp; exact f2, by go_num, by omega⟩
          case measure => simp only [intOf]; omega
        · go_wp2_with fail
          go_round
          case rel => exact ⟨k + 1, by rw [HTK.out]; simp; omega, by go_num, by omega⟩
          case measure => simp only [intOf]; omega
      · go_wp2_with fail
        go_round
        case rel => exact ⟨k + 1, by rw [HTK.out]; simp, by go_num, by omega⟩
        case measure => simp only [intOf]; omega
    · obtain rfl : k = n := by omega
      rw [show ws.take k = ws from List.take_of_length_le (by rw [HN.out]; exact Nat.le_refl _), HANY.out]
      go_wp2_with fail
      have htot := total_any (fun _ => True) A ws c w (fun _ _ => trivial) HX.out HR.out (by rw [HN.out]; omega)
      rw [HN.out, HS.out] at htot
      refine htot.mono ?_
      rintro e w1 ⟨v1, rfl, x1, b1⟩
      have X1 := Lib.hid x1
      have HL := Lib.hid (show Later w w1 from b1)
      clear x1 b1 htot
      go_wp2_with fail
      refine (fit_is _ S (k + 7) _ X1.out (by omega) (by omega) S 0 (fit_id HSI.out)).mono ?_
      rintro e w2 ⟨rfl, b2⟩
      have HL := Lib.hid (HL.out.trans b2)
      clear b2
      go_wp2_with fail
      refine (HPOS.out w2 (HR.out.below HL.out)).mono ?_
      rintro e w3 ⟨v, rfl, h3a⟩
      obtain ⟨g, cap, rfl, hcap⟩ := h3a.form (n := k) (by rw [outL_len, HN.out]) hn1
      have HA := Lib.hid (all_in h3a HL.out)
      clear h3a X1
      go_wp2_with fail
      rw [← negs_zero (outL (-T) S ws)] at HA
      go_loopw [12] (fun i wr => ∃ (z : Nat), i = .int .i64 (z : Int) ∧ z ≤ k ∧ AllW w (negs (outL (-T) S ws) z) (.slice (some ⟨g, 0, none⟩) k cap) wr) (fun i _ => k - (intOf i).toNat)
      case atStart => exact ⟨0, rfl, by omega, HA.out⟩
      case round =>
        clear HA
        obtain ⟨z, rfl, hz, hall⟩ := hrel
        have HA := Lib.hid hall
        clear hall
        have g2 : (0 : Int) ≤ (z : Int) := Int.natCast_nonneg _
        have hol : (outL (-T) S ws).length = k := by rw [outL_len, HN.out]
        by_cases hzk : z < k
        · have g3 : (z : Int) < (k : Int) := by omega
          have hml : (negs (outL (-T) S ws) z).length = k := by rw [negs_len, hol]
          have c1 := HA.out.cell hml hzk
          rw [negs_get (by rw [hol]; exact hzk)] at c1
          have d1 := HA.out.free hml z
          have hli := outL_I HW.out HTN.out (by rw [HN.out]; omega) (i := z) (by rw [HN.out]; exact hzk)
          have hns := negs_step (o := outL (-T) S ws) (z := z) (by rw [hol]; exact hzk)
          obtain ⟨o, ho⟩ : ∃ o, (outL (-T) S ws).getD z 0 = o := ⟨_, rfl⟩
          rw [ho] at c1 hli hns
          have HNS := Lib.hid hns
          have HML := Lib.hid hml
          have f3 : IntKind.i64.wrap (-o) = -o := IntWalk.i64_in _ (by have := HT.out; unfold I64 at this; omega)
          clear hns hml ho hol
          go_wp2_with fail
          go_roundw
          case rel => exact ⟨z + 1, by go_num, by omega, by rw [← HNS.out]; exact HA.out.set HML.out z _⟩
          case measure => simp only [intOf]; omega
        · obtain rfl : z = k := by omega
          rw [negs_all hol] at HA
          clear hol
          go_wp2_with fail
          go_ret2
          exact ⟨_, rfl, HA.out⟩

theorem rout_any (T : Int) (A : Option Addr) (ws : List Int) (c : Nat) (w : World) (hT : I64 T) (hx : ∀ x ∈ ws, I64 x) (hr : Row w 0 A (ints ws)) (hl : ws.length * 8 ≤ 140737488351232) :
    Calls Try.prog 18 #[.int .i64 T, .slice A ws.length c] w (RetL w (outV T ws) (outE T ws)) := by
  by_cases hE : outE T ws = 0
  · obtain ⟨h1, h2⟩ := outE_ok hE
    obtain ⟨_, _, _, _, hn1⟩ := wE_ok h1
    have hV : outV T ws = (outL (max (0 - T) T) ws.sum ws).map (fun x => if T < 0 then -x else x) := by unfold outV; rw [if_pos hE]
    rw [hE, hV]
    by_cases h0 : T < 0
    · refine (rout_neg T A ws c w hT h0 h2 hx hr h1).mono ?_
      rintro e w' ⟨v, rfl, hall⟩
      rw [show max (0 - T) T = -T by omega, show (fun x : Int => if T < 0 then -x else x) = (fun x => -x) by funext x; rw [if_pos h0]]
      exact all_ret hall (by rw [List.length_map, outL_len]; exact hn1)
    · refine (rout_pos T A ws c w hT (by omega) hx hr h1).mono ?_
      rintro e w' ⟨v, rfl, hall⟩
      rw [show max (0 - T) T = T by omega, show (fun x : Int => if T < 0 then -x else x) = id by funext x; rw [if_neg h0]; rfl, List.map_id]
      exact all_ret hall (by rw [outL_len]; exact hn1)
  · have hV : outV T ws = [] := by unfold outV; rw [if_neg hE]
    rw [hV]
    exact rout_bad T A ws c w hT hx hr hl _ rfl hE
end Go.Proofs.Ytejkamgidhpcjaa.PO
