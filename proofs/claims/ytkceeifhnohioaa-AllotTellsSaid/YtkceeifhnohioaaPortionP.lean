/- The walk of portion.Out, of a total above 0. -/
import Derived.Test.YtkceeifhnohioaaPortionB
namespace Go.Proofs.Ytkceeifhnohioaa.PO
open Go.RowKit Go.Proofs.Ytkceeifhnohioaa.Cents
set_option linter.unusedVariables false
set_option linter.unusedSimpArgs false

set_option maxHeartbeats 4000000 in
set_option maxRecDepth 100000 in
theorem out_pos (t S : Int) (A : Option Addr) (ws : List Int) (c : Nat) (w : World) (hs : 0 ≤ t) (hs2 : -t < t) (hT : t < 9223372036854775808) (hx : ∀ x ∈ ws, I64 x) (hr : Row w 0 A (ints ws)) (hwe : wE ws = 0) (hS : ws.sum = S) :
    Calls Try.prog 19 #[.int .i64 t, .slice A ws.length c] w (RetO w ((outL t S ws).map fun x => x) 0) := by
  obtain ⟨hn64, hpos, hS1, hSI, hn1⟩ := wE_ok hwe
  have hwt : Wts t S ws := ⟨by omega, hpos, hS, by rw [← hS]; exact hS1⟩
  have HW := Lib.hid (wrong_any A ws c w hx hr (by omega) ws.sum 0 ⟨by unfold wN; rw [if_pos hwe], hwe⟩)
  rw [hS] at HW hS1 hSI
  have HLE := Lib.hid (fun W => less_yes 0 t W ⟨by decide, by decide⟩ (by unfold I64; omega) (by unfold I64; omega))
  have HWT := Lib.hid hwt
  have HX := Lib.hid hx
  have HR := Lib.hid hr
  have HSI := Lib.hid hSI
  have HIT := Lib.hid (show I64 t from ⟨by omega, hT⟩)
  obtain ⟨n, hn⟩ : ∃ n, ws.length = n := ⟨_, rfl⟩
  rw [hn] at hn64 hn1 HW ⊢
  have HN := Lib.hid hn
  have hmiss := hwt.missing
  have hpl : (pr t S ws).length = n := by simp [pr, hn]
  have hrl : (rr t S ws).length = n := by simp [rr, hn]
  have HPL := Lib.hid hpl
  have HRL := Lib.hid hrl
  have HPOS := Lib.hid (show ∀ i, i < (pr t S ws).length → 0 ≤ (pr t S ws).getD i 0 from fun i hi => (hwt.p (by rw [hn, ← hpl]; exact hi)).2.1)
  clear hwe hpos hwt hx hr hSI hn hS hpl hrl
  go_enter Try.func19, Try.ntmps19
  go_wp2_with fail
  refine HW.out.mono ?_
  rintro e w1 ⟨rfl, hb⟩
  have HB := Lib.hid hb
  clear hb
  go_wp2_with fail
  refine (HLE.out _).mono ?_
  rintro e w2 ⟨rfl, rfl⟩
  have hmk1 := made_i64 w1 n (by omega)
  have hmk2 := made_i64 (w1.alloc (.cells (ints (List.replicate n 0)).toArray 2)) n (by omega)
  go_wp2_with fail
  clear hmk1 hmk2
  have hs1 : (w1.alloc (.cells (ints (List.replicate n 0)).toArray 2)).heap.size = w1.heap.size + 1 := by simp
  have hs2 : ((w1.alloc (.cells (ints (List.replicate n 0)).toArray 2)).alloc (.cells (ints (List.replicate n 0)).toArray 2)).heap.size = w1.heap.size + 1 + 1 := by simp
  have k1 := ((Blk.new w1 2 (ints (List.replicate n 0)).toArray).alloc (.cells (ints (List.replicate n 0)).toArray 2)).alloc (.cells #[.slice (some ⟨w1.heap.size + 1, 0, none⟩) n n] 22)
  have k2 := (Blk.new (w1.alloc (.cells (ints (List.replicate n 0)).toArray 2)) 2 (ints (List.replicate n 0)).toArray).alloc (.cells #[.slice (some ⟨w1.heap.size + 1, 0, none⟩) n n] 22)
  have k3 := Blk.new ((w1.alloc (.cells (ints (List.replicate n 0)).toArray 2)).alloc (.cells (ints (List.replicate n 0)).toArray 2)) 22 #[.slice (some ⟨w1.heap.size + 1, 0, none⟩) n n]
  rw [hs1] at k2
  rw [hs2] at k3
  have k4 := ((HB.out.alloc HB.out.size (.cells (ints (List.replicate n 0)).toArray 2)).alloc (by rw [hs1]; have := HB.out.size; omega) (.cells (ints (List.replicate n 0)).toArray 2)).alloc (by rw [hs2]; have := HB.out.size; omega) (.cells #[.slice (some ⟨w1.heap.size + 1, 0, none⟩) n n] 22)
  have hsz := HB.out.size
  obtain ⟨O, hO⟩ : ∃ O, O = w1.heap.size := ⟨_, rfl⟩
  generalize (((w1.alloc (.cells (ints (List.replicate n 0)).toArray 2)).alloc (.cells (ints (List.replicate n 0)).toArray 2)).alloc (.cells #[.slice (some ⟨w1.heap.size + 1, 0, none⟩) n n] 22)) = W at k1 k2 k3 k4 ⊢
  rw [← hO] at k1 k2 k3 hsz ⊢
  have HPW := Lib.hid (PW.mk (w0 := w) (o := List.replicate n 0) (q := List.replicate n 0) k1 k2 k3 k4 hsz (by omega) (by omega) (by omega) (by omega) (by omega) (by simp) (by simp))
  clear k1 k2 k3 k4 hs1 hs2 hO hsz HW HLE
  go_loopw [11, 45] (fun m i wr => ∃ (k : Nat) (mi : Int) (o q : List Int), m = .int .i64 mi ∧ i = .int .i64 (k : Int) ∧ k ≤ n ∧ mi = t - ((pr t S ws).take k).sum ∧ PW w O (O + 1) (O + 1 + 1) n o q wr ∧ (∀ i, i < k → o.getD i 0 = (pr t S ws).getD i 0 ∧ q.getD i 0 = (rr t S ws).getD i 0)) (fun _ i _ => n - (intOf i).toNat)
  case atStart => exact ⟨0, t, _, _, rfl, rfl, by omega, by simp, HPW.out, fun i hi => by omega⟩
  case round =>
    clear HPW HB
    obtain ⟨k, mi, o, q, rfl, rfl, hk, hmi, hpw, hoq⟩ := hrel
    have HPW := Lib.hid hpw
    have HOQ := Lib.hid hoq
    have HMI := Lib.hid hmi
    have hst := sum_take_le HPOS.out k
    rw [show ((pr t S ws).take k).sum = t - mi by omega] at hst
    obtain ⟨hst1, hst2⟩ := hst
    clear hpw hoq hmi
    by_cases hlt : k < n
    · obtain ⟨ad, rfl, c0⟩ := int_cell (HR.out.below HPW.out.be) (j := k) (by rw [HN.out]; exact hlt)
      have hki : k < ws.length := by rw [HN.out]; exact hlt
      have hxm : I64 (ws.getD k 0) := by
        rw [List.getD_eq_getElem?_getD, List.getElem?_eq_getElem hki]; exact HX.out _ (List.getElem_mem _)
      have hp := HWT.out.p hki
      have hr := HWT.out.r hki
      have hwl := weight_le HWT.out.pos k hki
      rw [HWT.out.sum] at hwl
      have hpo := part_ok (a := t) (p := ws.getD k 0) (m := S) HIT.out hS1 hwl.1 hwl.2
      have hro := rest_ok (a := t) (p := ws.getD k 0) (m := S) hS1 hwl.1
      rw [← hp.1] at hpo
      rw [← hr.1] at hro
      have hstep := sum_take_succ (pr t S ws) (k := k) (by rw [HPL.out]; exact hlt)
      have hst3 := (sum_take_le HPOS.out (k + 1)).2
      rw [hstep] at hst3
      obtain ⟨x, hxx⟩ : ∃ x, ws.getD k 0 = x := ⟨_, rfl⟩
      obtain ⟨p, hpp⟩ : ∃ p, (pr t S ws).getD k 0 = p := ⟨_, rfl⟩
      obtain ⟨r, hrr⟩ : ∃ r, (rr t S ws).getD k 0 = r := ⟨_, rfl⟩
      rw [hxx] at c0 hxm hpo hro
      rw [hpp] at hp hpo hstep hst3
      rw [hrr] at hr hro
      have HSTEP := Lib.hid hstep
      have HPP := Lib.hid hpp
      have HRR := Lib.hid hrr
      have HXM := Lib.hid hxm
      have HPO := Lib.hid hpo
      have HRO := Lib.hid hro
      have hp0 := hp.2.1
      have hp1 := hp.2.2
      clear hp
      rw [show ((pr t S ws).take k).sum = t - mi by have := HMI.out; omega] at hst3
      have g0 : (0 : Int) ≤ (k : Int) := Int.natCast_nonneg _
      have g1 : (k : Int) < (n : Int) := by omega
      have hOk : k < o.length := by rw [HPW.out.lo]; exact hlt
      have hQk : k < q.length := by rw [HPW.out.lq]; exact hlt
      clear hstep hpp hrr hxm hpo hro hr hwl hxx hki
      have o1 := blk_get HPW.out.bo hOk
      have o2 := HPW.out.bo.frozen k
      go_wp2_with fail
      refine (part_is t x S p 0 _ HIT.out HXM.out HSI.out HPO.out).mono ?_
      rintro e w3 ⟨rfl, q3, rfl⟩
      go_wp2_with fail
      have HPW2 := Lib.hid ((HPW.out.drewN q3).setO k p)
      generalize ((wr.drewN q3).setCell ⟨O, k, none⟩ (.int .i64 p)) = w4 at HPW2 ⊢
      have e1 : w4.cell? ⟨O + 1 + 1, 0, none⟩ = some (.slice (some ⟨O + 1, 0, none⟩) n n) := HPW2.out.bc.cell 0
      have e2 := blk_get HPW2.out.bq (j := k) hQk
      have e3 := HPW2.out.bq.frozen k
      clear o1 o2
      go_region_with ((go_at_call 34; refine (rest_is t x S r 0 _ HIT.out HXM.out HSI.out HRO.out).mono ?_; rintro e w5 ⟨rfl, hq5⟩; have HPW3 := Lib.hid (HPW2.out.drew.quiet hq5); have HQ5 := Lib.hid hq5; clear hq5; have f1 : w5.cell? ⟨O + 1 + 1, 0, none⟩ = some (.slice (some ⟨O + 1, 0, none⟩) n n) := HPW3.out.bc.cell 0; have f2 := blk_get HPW3.out.bq hQk; have f3 := HPW3.out.bq.frozen k; have f4 : w5.cell? ⟨O, k, none⟩ = some (.int .i64 p) := blk_put HPW3.out.bo hOk))
      all_goals
        go_wp2_with fail
        have HPW4 := Lib.hid (HPW3.out.setQ k r)
        go_roundw
        case rel =>
          refine ⟨k + 1, _, _, _, rfl, by go_num, by omega, by rw [HSTEP.out]; have := HMI.out; omega, HPW4.out, fun i hi => ?_⟩
          rw [getD_set hOk, getD_set hQk]
          by_cases c : i = k
          · subst c; rw [if_pos rfl, if_pos rfl, HPP.out, HRR.out]; exact ⟨rfl, rfl⟩
          · rw [if_neg c, if_neg c]; exact HOQ.out i (by omega)
        case measure => simp only [intOf]; omega
    · obtain rfl : k = n := by omega
      have ho : o = pr t S ws := getD_take_end HPL.out HPW.out.lo (fun i hi => (HOQ.out i hi).1)
      have hq : q = rr t S ws := getD_take_end HRL.out HPW.out.lq (fun i hi => (HOQ.out i hi).2)
      subst ho hq
      have hmi2 : mi = t - (pr t S ws).sum := by rw [HMI.out, List.take_of_length_le (by rw [HPL.out]; omega)]
      have HMI2 := Lib.hid hmi2
      obtain ⟨M, hM⟩ := Int.eq_ofNat_of_zero_le (show 0 ≤ mi by omega)
      subst hM
      clear hmi2
      go_wp2_with fail
      have HINV := Lib.hid HWT.out.start
      rw [HN.out] at HINV
      go_loopw [79] (fun v wr => ∃ (j : Nat) (o q : List Int), v = .int .i64 (j : Int) ∧ j ≤ M ∧ PW w O (O + 1) (O + 1 + 1) k o q wr ∧ Inv (pr t S ws) (rr t S ws) o q k j) (fun v _ => M - (intOf v).toNat)
      case atStart => exact ⟨0, _, _, rfl, by omega, HPW.out, HINV.out⟩
      case round =>
        clear HPW HINV HOQ
        obtain ⟨j, o, q, rfl, hj, hpw, hinv⟩ := hrel
        have HPW := Lib.hid hpw
        have HINV := Lib.hid hinv
        clear hpw hinv
        by_cases hjm : j < M
        · go_wp2_with fail
          refine (greatest_any (O + 1) (O + 1 + 1) k q _ HPW.out.bq HPW.out.bc HPW.out.lq (by omega) (by omega)).mono ?_
          rintro e w3 ⟨b, rfl, hbest, hw3⟩
          subst hw3
          have hbk := hbest.lt
          have hsome := HINV.out.some hbest hS1 (fun i hi => (HWT.out.r (by rw [HN.out]; exact hi)).2.2) (by rw [HWT.out.rest, ← HMI2.out]) hjm
          have hinv2 := HINV.out.step hbest hsome
          have hle := hinv2.le HPOS.out hbk
          rw [getD_set (by rw [HPW.out.lo]; exact hbk), if_pos rfl] at hle
          have hle1 := hle.1
          have hle2 : o.getD b 0 + 1 ≤ t := by have := HMI2.out; have := hle.2; omega
          have hle0 : 0 ≤ o.getD b 0 := (HINV.out.le HPOS.out hbk).1
          have HINV2 := Lib.hid hinv2
          have ob := blk_get HPW.out.bo (j := b) (by rw [HPW.out.lo]; exact hbk)
          have ob2 := HPW.out.bo.frozen b
          obtain ⟨x, hx⟩ : ∃ x, o.getD b 0 = x := ⟨_, rfl⟩
          rw [hx] at ob hle0 hle1 hle2 HINV2
          clear hx hle hsome hinv2 hbest
          have g0 : (0 : Int) ≤ (b : Int) := Int.natCast_nonneg _
          have g1 : (b : Int) < (k : Int) := by omega
          have HPW2 := Lib.hid (HPW.out.setO b (x + 1))
          have e1 : (wr.setCell ⟨O, b, none⟩ (.int .i64 (x + 1))).cell? ⟨O + 1 + 1, 0, none⟩ = some (.slice (some ⟨O + 1, 0, none⟩) k k) := HPW2.out.bc.cell 0
          have e2 := blk_get HPW2.out.bq (j := b) (by rw [HPW.out.lq]; exact hbk)
          have e3 := HPW2.out.bq.frozen b
          have g2 : (0 : Int) ≤ (j : Int) := Int.natCast_nonneg _
          have g3 : (j : Int) < (M : Int) := by omega
          go_wp2_with fail
          have HPW3 := Lib.hid (HPW2.out.setQ b (-1))
          go_roundw
          case rel => exact ⟨j + 1, _, _, by go_num, by omega, HPW3.out, HINV2.out⟩
          case measure => simp only [intOf]; omega
        · obtain rfl : j = M := by omega
          go_wp2_with fail
          have hout : o = outL t S ws := (OutOk.mk ⟨q, j, by rw [HN.out]; exact HINV.out, HMI2.out⟩).eq HWT.out
          have HOUT := Lib.hid hout
          have hin : ∀ i, i < o.length → 0 ≤ o.getD i 0 ∧ o.getD i 0 ≤ t := fun i hi => by
            have := HINV.out.le HPOS.out (i := i) (by rw [HPW.out.lo] at hi; exact hi)
            have := HMI2.out
            omega
          have HIN := Lib.hid hin
          clear hout hin
          have HLO := Lib.hid HPW.out.lo
          go_loopw [95] (fun i wr => ∃ z : Nat, i = .int .i64 (z : Int) ∧ z ≤ k ∧ PW w O (O + 1) (O + 1 + 1) k o q wr) (fun i _ => k - (intOf i).toNat)
          case atStart => exact ⟨0, rfl, by omega, HPW.out⟩
          case round =>
            clear HPW
            obtain ⟨z, rfl, hz, hpw⟩ := hrel
            have HPW := Lib.hid hpw
            clear hpw
            have g0 : (0 : Int) ≤ (z : Int) := Int.natCast_nonneg _
            by_cases hzk : z < k
            · have g1 : (z : Int) < (k : Int) := by omega
              go_wp2_with fail
              go_roundw
              case rel => exact ⟨z + 1, by go_num, by omega, HPW.out⟩
              case measure => simp only [intOf]; omega
            · obtain rfl : z = k := by omega
              go_wp2_with fail
              go_ret2
              have hlen : ((outL t S ws).map fun x => x).length = z := by rw [← HOUT.out, List.length_map, HLO.out]
              have hbo := HPW.out.bo
              rw [show o = (outL t S ws).map (fun x => x) by rw [← HOUT.out]; simp] at hbo
              refine ⟨some ⟨O, 0, none⟩, z, by rw [hlen]; rfl, Row.of_blk hbo HPW.out.hO (by simp), by rw [hlen]; exact Nat.le_refl _, HPW.out.be, .inr ⟨O, rfl, hlen.symm, HPW.out.hO, hbo⟩⟩
end Go.Proofs.Ytkceeifhnohioaa.PO
