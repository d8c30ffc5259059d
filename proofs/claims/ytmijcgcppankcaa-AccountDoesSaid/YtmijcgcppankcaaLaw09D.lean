/- The walk of the law AccountDoes. -/
import Derived.Test.YtmijcgcppankcaaAcctR
import Derived.Test.YtmijcgcppankcaaLaw09C
import Derived.Test.YtmijcgcppankcaaNetS
import Derived.Deep.CutBlock
import Derived.BigQuiet
import Derived.Deep.RegionHeld3
namespace Go.Proofs.Ytmijcgcppankcaa.AC
open Go.RowKit Go.Proofs.Ytmijcgcppankcaa.Cents Go.Proofs.Ytmijcgcppankcaa.MV Go.Proofs.Ytmijcgcppankcaa.Net Go.Proofs.Ytmijcgcppankcaa.CO Go.Proofs.Ytmijcgcppankcaa.Exact
open Go.Maps (Keyed)
set_option linter.unusedVariables false
set_option linter.unusedSimpArgs false

/-- The program's ledger and the reference's: the same plain data. -/
structure TwoA (W : World) (b0 b1 L R per : Nat) (s : St) (w : World) : Prop where
  l : Led b0 L per s w
  r : RfL b1 R per s w
  p : LedP per s
  b : Below W.heap.size W w
  h0 : W.heap.size ≤ b0
  h1 : W.heap.size ≤ b1
section
variable {W : World} {b0 b1 L R per : Nat} {s s' : St} {w w' : World}
theorem TwoA.later (h : TwoA W b0 b1 L R per s w) (hb : Below w.heap.size w w') : TwoA W b0 b1 L R per s w' :=
  ⟨h.l.later hb, h.r.later hb, h.p, h.b.trans (hb.mono h.b.size), h.h0, h.h1⟩
theorem TwoA.ledc (h : TwoA W b0 b1 L R per s w) : ∃ E c, w.cell? ⟨R, 1, none⟩ = some (.int .i64 s.opn) ∧ w.cell? ⟨R, 2, none⟩ = some (.slice E s.es.length c) := by
  obtain ⟨_, xs, E, c, hW, he⟩ := h.r
  have c2 := hW.led.cell 2
  rw [show xs.length = s.es.length by rw [← he, ents_len]] at c2
  exact ⟨E, c, hW.led.cell 1, c2⟩
theorem TwoA.many (h : TwoA W b0 b1 L R per s w) : s.es.length ≤ 5000 := h.p.len
theorem TwoA.at_ (h : TwoA W b0 b1 L R per s w) {i : Nat} (hi : i < s.es.length) : ∃ g c P cp, w.cell? ⟨R, 2, none⟩ = some (.slice (some ⟨g, 0, none⟩) s.es.length c) ∧ w.cell? ⟨g, i * 3, none⟩ = some (.int .i64 ((s.es.getD i e0).q : Int)) ∧ w.cell? ⟨g, i * 3 + 1, none⟩ = some (.slice P (s.es.getD i e0).ps.length cp) ∧ Row w 0 P (cells (s.es.getD i e0).ps) ∧ (s.es.getD i e0).ps.length ≤ 1000 := by
  obtain ⟨_, xs, E, c, hW, he⟩ := h.r
  have hl : xs.length = s.es.length := by rw [← he, ents_len]
  obtain ⟨g, rfl, a0, a1, _, _⟩ := hW.entry (i := i) (by omega)
  have c2 := hW.led.cell 2
  rw [hl] at c2
  have hgd : s.es.getD i e0 = (xs.getD i ev0).e := by rw [← he, getD_ents]
  have hym : xs.getD i ev0 ∈ xs := by rw [List.getD_eq_getElem?_getD, List.getElem?_eq_getElem (by omega)]; exact List.getElem_mem (by omega)
  rw [hgd]
  generalize xs.getD i ev0 = y at *
  have hown := hW.pst y hym
  obtain ⟨P, cp, hv, _⟩ := own_slice hown
  rw [hv] at a1 hown
  have hok := (h.p.hok he y hym).2.1
  exact ⟨g, c, P, cp, c2, a0, a1, (Row.of_own hown (by decide)).weak (Nat.zero_le _), by omega⟩
theorem TwoA.turnL (h : TwoA W b0 b1 L R per s w) (hL : Led b0 L per s' w') (hk : Kp b0 w w') : Led b0 L per s' w' ∧ RfL b1 R per s w' ∧ Below W.heap.size W w' := ⟨hL, h.r.kp hk, hk.below h.b h.h0⟩
end
set_option maxHeartbeats 2000000 in
set_option maxRecDepth 100000 in
theorem dso_no (x : Int) (A : Option Addr) (ops : List OpV) (c : Nat) (a k q : Int) (W : World) (hx : I64 x) (h1 : OpsQ W A ops) (h : largeB x ops = true ∨ newE x ≠ 0) :
    Calls Try.prog 3 #[.int .i64 x, .slice A ops.length c, .int .i64 a, .int .i64 k, .int .i64 q] W fun e w' => e = .returned (.bool true) ∧ Below W.heap.size W w' := by
  have HL := Lib.hid (h1.large x hx c)
  clear h1
  cases hB : largeB x ops with
  | true =>
    have HB := Lib.hid hB
    clear hB h
    generalize ops.length = n at *
    go_enter Try.func3, Try.ntmps3
    go_wp2_with fail
    refine (awake09 _).mono ?_
    rintro e w1 ⟨rfl, hb⟩
    have HB1 := Lib.hid hb
    clear hb
    go_wp2_with fail
    refine (HL.out _ HB1.out true HB.out).mono ?_
    rintro e w2 ⟨rfl, rfl⟩
    go_wp2_with fail
    go_ret
    exact ⟨rfl, HB1.out⟩
  | false =>
    have hne : newE x ≠ 0 := h.resolve_left (by rw [hB]; decide)
    have HNO := Lib.hid (fun w1 => new_no x w1 hx hne)
    have HNR := Lib.hid (fun w1 => rnew_no x w1 hne)
    have HB := Lib.hid hB
    clear hB h hne
    generalize ops.length = n at *
    go_enter Try.func3, Try.ntmps3
    go_wp2_with fail
    refine (awake09 _).mono ?_
    rintro e w1 ⟨rfl, hb⟩
    have HB1 := Lib.hid hb
    clear hb
    go_wp2_with fail
    refine (HL.out _ HB1.out false HB.out).mono ?_
    rintro e w2 ⟨rfl, rfl⟩
    go_wp2_with fail
    refine (HNO.out _).mono ?_
    rintro e w3 ⟨rfl, hb⟩
    have HB3 := Lib.hid (HB1.out.trans (hb.mono HB1.out.size))
    clear hb
    go_wp2_with fail
    refine (HNR.out _).mono ?_
    rintro e w4 ⟨rfl, rfl⟩
    go_wp2_with fail
    go_loopw [15] (fun v wr => v = .int .i64 0 ∧ w3 = wr) (fun _ _ => 0)
    case atStart => exact ⟨rfl, rfl⟩
    case round =>
      obtain ⟨rfl, rfl⟩ := hrel
      go_wp2_with fail
      go_loopw [27] (fun v wr => v = .int .i64 (-1) ∧ w3 = wr) (fun _ _ => 0)
      case atStart => exact ⟨rfl, rfl⟩
      case round =>
        obtain ⟨rfl, rfl⟩ := hrel
        go_wp2_with fail
        go_ret
        exact ⟨rfl, HB3.out⟩
set_option maxHeartbeats 8000000 in
set_option maxRecDepth 100000 in
theorem dso_go (x : Int) (A : Option Addr) (ops : List OpV) (c : Nat) (a k q : Int) (W : World) (hx : I64 x) (h1 : OpsQ W A ops) (ha : I64 a) (hk : I64 k) (hq : I64 q) (hB : largeB x ops = false) (hne : newE x = 0) :
    Calls Try.prog 3 #[.int .i64 x, .slice A ops.length c, .int .i64 a, .int .i64 k, .int .i64 q] W fun e w' => e = .returned (.bool true) ∧ Below W.heap.size W w' := by
  obtain ⟨h40, h24⟩ := large_noC hB
  have HLA := Lib.hid (fun w1 hb => h1.large x hx c w1 hb false hB)
  have HNO := Lib.hid (fun w1 => new_led x w1 hx hne)
  have HNR := Lib.hid (fun (per : Nat) w1 (he : x = (per : Int)) => rnew_led per w1 (by rw [← he]; exact hne))
  have H1 := Lib.hid h1
  have H40 := Lib.hid h40
  obtain ⟨n, hn⟩ : ∃ n, ops.length = n := ⟨_, rfl⟩
  rw [hn] at HLA h24 ⊢
  have HN := Lib.hid hn
  clear h1 hB hne h40 hn
  go_enter Try.func3, Try.ntmps3
  go_wp2_with fail
  refine (awake09 _).mono ?_
  rintro e w1 ⟨rfl, hb⟩
  have HB1 := Lib.hid hb
  clear hb
  go_wp2_with fail
  refine (HLA.out _ HB1.out).mono ?_
  rintro e w2 ⟨rfl, rfl⟩
  go_wp2_with fail
  refine (HNO.out _).mono ?_
  rintro e w3 ⟨L, per, rfl, rfl, hL, hP, hb⟩
  have HNR := Lib.hid (HNR.out per w3 rfl)
  have HL3 := Lib.hid hL
  have HP3 := Lib.hid hP
  have HB3 := Lib.hid (HB1.out.trans (hb.mono HB1.out.size))
  have hp1 := hP.per1
  have hp2 := hP.per2
  clear hb hL hP HNO HLA
  go_wp2_with fail
  refine HNR.out.mono ?_
  rintro e w4 ⟨R, rfl, hR, hb⟩
  have HT4 := Lib.hid (show TwoA W w1.heap.size w3.heap.size L R per ⟨0, []⟩ w4 from ⟨HL3.out.later hb, hR, HP3.out, HB3.out.trans (hb.mono HB3.out.size), HB1.out.size, HB3.out.size⟩)
  obtain ⟨b0, hb0⟩ : ∃ b0, w1.heap.size = b0 := ⟨_, rfl⟩
  obtain ⟨b1, hb1⟩ : ∃ b1, w3.heap.size = b1 := ⟨_, rfl⟩
  rw [hb0, hb1] at HT4
  clear hb hR hb0 hb1 HL3 HP3 HB3 HB1
  have wn : IntKind.i64.wrap ((per : Int) - 1) = (per : Int) - 1 := IntWalk.i64_in _ (by omega)
  go_wp2_with fail
  go_loopw [15] (fun v wr => ∃ (j : Nat) (s : St), v = .int .i64 (j : Int) ∧ j ≤ n ∧ TwoA W b0 b1 L R per s wr) (fun v _ => n - (intOf v).toNat)
  case atStart => exact ⟨0, ⟨0, []⟩, rfl, by omega, HT4.out⟩
  case round =>
    clear HT4
    obtain ⟨j, s, rfl, hj, hT⟩ := hrel
    have HT := Lib.hid hT
    have g0 : (0 : Int) ≤ (j : Int) := Int.natCast_nonneg _
    by_cases hlt : j < n
    · have hjl : j < ops.length := by rw [HN.out]; exact hlt
      obtain ⟨ad, rfl, c0, c1, c2, c3⟩ := op_cells (H1.out.r.below hT.b) hjl
      have hm : ops[j] ∈ ops := List.getElem_mem _
      obtain ⟨o, ho⟩ : ∃ o, o = ops[j] := ⟨_, rfl⟩
      rw [← ho] at c0 c1 c2 c3 hm
      have HD := Lib.hid (H1.out.at_ H40.out hT.l hT.p hT.b o hm)
      have HTA := Lib.hid (fun ob => hT.later (alloc1 wr ob))
      have HP2 := Lib.hid (ledp_op (o := o) hT.p (H1.out.q o hm).i)
      have HOQ := Lib.hid (H1.out.q o hm)
      have HO40 := Lib.hid (H40.out o hm)
      have g1 : (j : Int) < (n : Int) := by omega
      have HKB := Lib.hid (fun (w9 : World) (cs : Array Value) (h9 : Kp b0 (wr.alloc (.cells cs 34)) w9) => h9.blk (Blk.new wr 34 cs) (by decide) (by decide))
      clear hT hm ho
      obtain ⟨od, op, oe, oA, oc, ps⟩ := o
      unfold OpV.val at HD
      dsimp only at HD c0 c1 c2 c3
      obtain ⟨m, hm⟩ : ∃ m, ps.length = m := ⟨_, rfl⟩
      have HM := Lib.hid hm
      rw [hm] at HD c3
      have hm40 : m ≤ 40 := by rw [← hm]; exact HO40.out
      clear hm
      go_wp2_with fail
      refine (HD.out _).mono ?_
      rintro e w6 ⟨rfl, hL6, hk6⟩
      have h6 := (HTA.out _).turnL hL6 hk6
      have HL6 := Lib.hid h6.1
      have HR6 := Lib.hid h6.2.1
      have HW6 := Lib.hid h6.2.2
      have HS := Lib.hid HT.out.p
      have HH := Lib.hid (And.intro HT.out.h0 HT.out.h1)
      have HQB := Lib.hid (HKB.out w6 _ hk6)
      obtain ⟨Q, hQ⟩ : ∃ Q, wr.heap.size = Q := ⟨_, rfl⟩
      rw [hQ] at HQB ⊢
      clear hL6 hk6 h6 hQ HD HKB HTA c0 c1 c2 c3 HT
      have q0 : w6.cell? ⟨Q, 0, none⟩ = some (.int .i64 od) := HQB.out.cell 0
      have q1 : w6.cell? ⟨Q, 1, none⟩ = some (.int .i64 op) := HQB.out.cell 1
      have q2 : w6.cell? ⟨Q, 2, none⟩ = some (.int .i64 oe) := HQB.out.cell 2
      have q3 : w6.cell? ⟨Q, 3, none⟩ = some (.slice oA m oc) := HQB.out.cell 3
      have HPO := Lib.hid (rpost_led HR6.out HS.out op oA ps oc (HOQ.out.r.below HW6.out) (by rw [HM.out]; omega) HOQ.out.i)
      rw [HM.out] at HPO
      have HRE := Lib.hid (rrev_led HR6.out HS.out oe op)
      have HCL := Lib.hid (rclose_led HR6.out HS.out op)
      have HN0 := Lib.hid (fun h : od = 0 => (show oN per s ⟨od, op, oe, oA, oc, ps⟩ = pN per s op ps ∧ oE per s ⟨od, op, oe, oA, oc, ps⟩ = pE per s op ps ∧ oS per s ⟨od, op, oe, oA, oc, ps⟩ = pS per s op ps from ⟨if_pos h, if_pos h, if_pos h⟩))
      have HN1 := Lib.hid (fun (h : ¬ od = 0) (h1 : od = 1) => (show oN per s ⟨od, op, oe, oA, oc, ps⟩ = rN per s oe op ∧ oE per s ⟨od, op, oe, oA, oc, ps⟩ = rE per s oe op ∧ oS per s ⟨od, op, oe, oA, oc, ps⟩ = rS per s oe op from ⟨(if_neg h).trans (if_pos h1), (if_neg h).trans (if_pos h1), (if_neg h).trans (if_pos h1)⟩))
      have HN2 := Lib.hid (fun (h : ¬ od = 0) (h1 : ¬ od = 1) => (show oN per s ⟨od, op, oe, oA, oc, ps⟩ = 0 ∧ oE per s ⟨od, op, oe, oA, oc, ps⟩ = closeE per s.opn op ∧ oS per s ⟨od, op, oe, oA, oc, ps⟩ = cS per s op from ⟨(if_neg h).trans (if_neg h1), (if_neg h).trans (if_neg h1), (if_neg h).trans (if_neg h1)⟩))
      obtain ⟨on, hon⟩ : ∃ z, oN per s ⟨od, op, oe, oA, oc, ps⟩ = z := ⟨_, rfl⟩
      obtain ⟨oer, hoe⟩ : ∃ z, oE per s ⟨od, op, oe, oA, oc, ps⟩ = z := ⟨_, rfl⟩
      obtain ⟨s2, hs2⟩ : ∃ z, oS per s ⟨od, op, oe, oA, oc, ps⟩ = z := ⟨_, rfl⟩
      rw [hon, hoe, hs2] at HN0 HN1 HN2
      rw [hon, hoe]
      rw [hs2] at HL6 HP2
      clear hon hoe hs2
      go_upto_block 2 with fail
      go_cut [19, 20, 77] (fun u v tg wx => u = .int .i64 on ∧ v = .int .i64 oer ∧ TwoA W b0 b1 L R per s2 wx ∧ Blk wx Q 34 #[.int .i64 od, .int .i64 op, .int .i64 oe, .slice oA m oc])
      case first =>
        as_aux_lemma =>
          by_cases d0 : od = 0
          · have HN0 := Lib.hid (HN0.out d0)
            go_wp2_with fail
            refine HPO.out.mono ?_
            rintro e w7 ⟨rfl, hR7, hk7⟩
            rw [← HN0.out.2.2] at hR7
            rw [← HN0.out.1, ← HN0.out.2.1]
            have HT7 := Lib.hid (show TwoA W b0 b1 L R per s2 w7 from ⟨HL6.out.kq hk7, hR7, HP2.out, hk7.below HW6.out HH.out.2, HH.out.1, HH.out.2⟩)
            have HQ7 := Lib.hid (HQB.out.fr hk7.fr (RB.no HQB.out (by decide) (by decide)))
            clear hR7 hk7
            go_wp2_with fail
            go_meet
            case rel => exact ⟨rfl, rfl, HT7.out, HQ7.out⟩
          · have db0 : (od == 0) = false := by simpa using d0
            by_cases d1 : od = 1
            · have HN1 := Lib.hid (HN1.out d0 d1)
              go_wp2_with fail
              refine HRE.out.mono ?_
              rintro e w7 ⟨rfl, hR7, hk7⟩
              rw [← HN1.out.2.2] at hR7
              rw [← HN1.out.1, ← HN1.out.2.1]
              have HT7 := Lib.hid (show TwoA W b0 b1 L R per s2 w7 from ⟨HL6.out.kq hk7, hR7, HP2.out, hk7.below HW6.out HH.out.2, HH.out.1, HH.out.2⟩)
              have HQ7 := Lib.hid (HQB.out.fr hk7.fr (RB.no HQB.out (by decide) (by decide)))
              clear hR7 hk7
              go_wp2_with fail
              go_meet
              case rel => exact ⟨rfl, rfl, HT7.out, HQ7.out⟩
            · have HN2 := Lib.hid (HN2.out d0 d1)
              have db1 : (od == 1) = false := by simpa using d1
              go_wp2_with fail
              refine HCL.out.mono ?_
              rintro e w7 ⟨rfl, hR7, hk7⟩
              rw [← HN2.out.2.2] at hR7
              rw [← HN2.out.2.1]
              have HT7 := Lib.hid (show TwoA W b0 b1 L R per s2 w7 from ⟨HL6.out.kq hk7, hR7, HP2.out, hk7.below HW6.out HH.out.2, HH.out.1, HH.out.2⟩)
              have HQ7 := Lib.hid (HQB.out.fr hk7.fr (RB.no HQB.out (by decide) (by decide)))
              clear hR7 hk7
              go_wp2_with fail
              go_meet
              case rel => exact ⟨by rw [HN2.out.1], rfl, HT7.out, HQ7.out⟩
      case rest =>
        obtain ⟨hu, hv, hT7, hQ7⟩ := hcut
        subst hu
        subst hv
        obtain ⟨w7, hw7⟩ : ∃ w7 : World, w7 = wc := ⟨_, rfl⟩
        rw [← hw7] at hT7 hQ7 ⊢
        clear hw7
        have HT7 := Lib.hid hT7
        have HQ7 := Lib.hid hQ7
        obtain ⟨E7, c7, k1, k2⟩ := hT7.ledc
        have HOP := Lib.hid (fun nn => (open_led (hT7.l.later ((Later.refl w7).drewN nn))).mono (fun e w' (h : _ ∧ _) => (show e = .returned (.int .i64 s2.opn) ∧ w' = w7.drewN nn from ⟨h.1, h.2.symm⟩)))
        have HMA := Lib.hid (fun nn => (many_led (hT7.l.later ((Later.refl w7).drewN nn))).mono (fun e w' (h : _ ∧ _) => (show e = .returned (.int .i64 (s2.es.length : Int)) ∧ w' = w7.drewN nn from ⟨h.1, h.2.symm⟩)))
        obtain ⟨opn, hopn⟩ : ∃ z, s2.opn = z := ⟨_, rfl⟩
        obtain ⟨N, hNN⟩ : ∃ z, s2.es.length = z := ⟨_, rfl⟩
        rw [hopn] at HOP k1
        rw [hNN] at HMA k2
        clear hT7 hQ7 q0 q1 q2 q3 HPO HRE HCL HN0 HN1 HN2 hopn hNN
        have HT2 := HT7
        go_wp2_with fail
        go_quiet ((first | (go_at_call 15; exact Calls.quiet_of_same (HOP.out _)) | (go_at_call 16; exact Calls.quiet_of_same (HMA.out _))))
        have HT8 := Lib.hid (HT7.out.later ((Later.refl w7).drewN nq))
        have HQ8 := Lib.hid (HQ7.out.drewN nq)
        obtain ⟨w8, hw8⟩ : ∃ z, w7.drewN nq = z := ⟨_, rfl⟩
        rw [hw8] at HT8 HQ8 ⊢
        clear HT2 HT7 HQ7 HOP HMA k1 k2 hw8
        obtain ⟨tn, te, HTN⟩ : ∃ u v, Hid (totN per s2.es a q = u ∧ totE per s2.es a q = v) := ⟨_, _, Lib.hid ⟨rfl, rfl⟩⟩
        obtain ⟨mv, HMV⟩ : ∃ u, Hid (movR per s2.es a k q = u) := ⟨_, Lib.hid rfl⟩
        obtain ⟨bl, HBL⟩ : ∃ u, Hid (balR per s2.es a k q = u) := ⟨_, Lib.hid rfl⟩
        go_wp2_with fail
        refine (total_led HT8.out.l HT8.out.p a q tn te HTN.out).mono ?_
        rintro e w9 ⟨rfl, hb⟩
        have HT9 := Lib.hid (HT8.out.later hb)
        have HQ9 := Lib.hid (HQ8.out.below hb HQ8.out.lt)
        clear hb HT8 HQ8
        go_wp2_with fail
        refine (rtotal_led HT9.out.r HT9.out.p a q tn te HTN.out).mono ?_
        rintro e w10 ⟨rfl, hb⟩
        have HT10 := Lib.hid (HT9.out.later hb)
        have HQ10 := Lib.hid (HQ9.out.below hb HQ9.out.lt)
        clear hb HT9 HQ9
        go_wp2_with fail
        refine (moved_led HT10.out.l HT10.out.p a k q ha hk hq mv HMV.out).mono ?_
        rintro e w11 ⟨rfl, rfl⟩
        go_wp2_with fail
        refine (rmoved_led HT10.out.r HT10.out.p a k q ha hk mv HMV.out).mono ?_
        rintro e w11 ⟨rfl, hb⟩
        have HT11 := Lib.hid (HT10.out.later hb)
        have HQ11 := Lib.hid (HQ10.out.below hb HQ10.out.lt)
        clear hb HT10 HQ10
        go_wp2_with fail
        refine (balance_led HT11.out.l HT11.out.p a k q ha hk hq bl HBL.out).mono ?_
        rintro e w12 ⟨rfl, hb⟩
        have HT12 := Lib.hid (HT11.out.later hb)
        have HQ12 := Lib.hid (HQ11.out.below hb HQ11.out.lt)
        clear hb HT11 HQ11
        go_wp2_with fail
        refine (rbalance_led HT12.out.r HT12.out.p a k q ha hk bl HBL.out).mono ?_
        rintro e w13 ⟨rfl, hb⟩
        have HT13 := Lib.hid (HT12.out.later hb)
        have hq13 := HQ12.out.below hb HQ12.out.lt
        have HQ13 := Lib.hid hq13
        have q3 : w13.cell? ⟨Q, 3, none⟩ = some (.slice oA m oc) := hq13.cell 3
        clear hb HT12 HQ12 hq13
        go_wp2_with fail
        go_loopw [182] (fun v wx => ∃ kk : Nat, v = .int .i64 (kk : Int) ∧ kk ≤ m ∧ TwoA W b0 b1 L R per s2 wx ∧ Blk wx Q 34 #[.int .i64 od, .int .i64 op, .int .i64 oe, .slice oA m oc]) (fun v _ => m - (intOf v).toNat)
        case atStart => exact ⟨0, rfl, by omega, HT13.out, HQ13.out⟩
        case round =>
          clear HT13 HQ13 q3
          as_aux_lemma =>
            obtain ⟨kk, rfl, hkm, hT, hQb⟩ := hrel
            have HT := Lib.hid hT
            have HQB := Lib.hid hQb
            have kk0 : (0 : Int) ≤ (kk : Int) := Int.natCast_nonneg _
            by_cases hlt2 : kk < m
            · have hkl : kk < ps.length := by rw [HM.out]; exact hlt2
              obtain ⟨ad2, rfl, _, y0, y1, y2⟩ := Net.Row.post (HOQ.out.r.below hT.b) hkl
              have HPI := Lib.hid (HOQ.out.i _ (List.getElem_mem hkl))
              obtain ⟨p, hp⟩ : ∃ p, p = ps[kk] := ⟨_, rfl⟩
              rw [← hp] at y0 y1 y2 HPI
              obtain ⟨pa, pc, px⟩ := p
              dsimp only at y0 y1 y2
              have kk1 : (kk : Int) < (m : Int) := by omega
              have HTA := Lib.hid (hT.later (alloc1 wr (.cells #[.int .i64 pa, .int .i64 pc, .int .i64 px] 48)))
              have HQA := Lib.hid (hQb.alloc (.cells #[.int .i64 pa, .int .i64 pc, .int .i64 px] 48))
              have HZA := Lib.hid (Blk.new wr 48 #[.int .i64 pa, .int .i64 pc, .int .i64 px])
              obtain ⟨mv2, HMV2⟩ : ∃ u, Hid (movR per s2.es pa pc op = u) := ⟨_, Lib.hid rfl⟩
              obtain ⟨bl2, HBL2⟩ : ∃ u, Hid (balR per s2.es pa pc ((per : Int) - 1) = u) := ⟨_, Lib.hid rfl⟩
              have HII := Lib.hid (And.intro HPI.out.1 (And.intro HPI.out.2.1 (And.intro HOQ.out.p (show I64 ((per : Int) - 1) from ⟨by omega, by omega⟩))))
              clear hT hQb hp
              go_wp2_with fail
              obtain ⟨wz, hwz⟩ : ∃ wz, wr.alloc (Obj.cells #[.int .i64 pa, .int .i64 pc, .int .i64 px] 48) = wz := ⟨_, rfl⟩
              obtain ⟨Z, hZ⟩ : ∃ Z, wr.heap.size = Z := ⟨_, rfl⟩
              rw [hwz] at HTA HQA HZA ⊢
              rw [hZ] at HZA ⊢
              have z0 : wz.cell? ⟨Z, 0, none⟩ = some (.int .i64 pa) := HZA.out.cell 0
              have z1 : wz.cell? ⟨Z, 1, none⟩ = some (.int .i64 pc) := HZA.out.cell 1
              have z2 : wz.cell? ⟨Q, 1, none⟩ = some (.int .i64 op) := HQA.out.cell 1
              clear hwz hZ y0 y1 y2 HT HQB
              have HLT := Lib.hid ((Later.refl wz).drew)
              go_region_held3 (fun V => V.cell? ⟨Z, 0, none⟩ = some (.int .i64 pa) ∧ V.cell? ⟨Z, 1, none⟩ = some (.int .i64 pc) ∧ V.cell? ⟨Q, 1, none⟩ = some (.int .i64 op))
                (first | (go_split_ands; exact ⟨x0, x1, x2⟩) | (go_keep; done))
                ((first
                  | (go_at_call 19; refine (moved_led (HTA.out.later HLT.out).l HTA.out.p pa pc op HII.out.1 HII.out.2.1 HII.out.2.2.1 mv2 HMV2.out).mono ?_; rintro e w3 ⟨rfl, hw3⟩; have HLT := Lib.hid (show Later wz w3 by rw [← hw3]; exact HLT.out); clear hw3; have x0 := HLT.out.cell z0; have x1 := HLT.out.cell z1; have x2 := HLT.out.cell z2)
                  | (go_at_call 20; refine (rmoved_led (HTA.out.later HLT.out).r HTA.out.p pa pc op HII.out.1 HII.out.2.1 mv2 HMV2.out).mono ?_; rintro e w3 ⟨rfl, hw3⟩; have HLT := Lib.hid (HLT.out.trans hw3); clear hw3; have x0 := HLT.out.cell z0; have x1 := HLT.out.cell z1; have x2 := HLT.out.cell z2)
                  | (go_at_call 21; refine (balance_led (HTA.out.later HLT.out).l HTA.out.p pa pc ((per : Int) - 1) HII.out.1 HII.out.2.1 HII.out.2.2.2 bl2 HBL2.out).mono ?_; rintro e w3 ⟨rfl, hw3⟩; have HLT := Lib.hid (HLT.out.trans hw3); clear hw3; have x0 := HLT.out.cell z0; have x1 := HLT.out.cell z1; have x2 := HLT.out.cell z2)
                  | (go_at_call 22; refine (rbalance_led (HTA.out.later HLT.out).r HTA.out.p pa pc ((per : Int) - 1) HII.out.1 HII.out.2.1 bl2 HBL2.out).mono ?_; rintro e w3 ⟨rfl, hw3⟩; have HLT := Lib.hid (HLT.out.trans hw3); clear hw3; have x0 := HLT.out.cell z0; have x1 := HLT.out.cell z1; have x2 := HLT.out.cell z2)))
              all_goals
                have HTE := Lib.hid (HTA.out.later HLT.out)
                have HQE := Lib.hid (HQA.out.below HLT.out HQA.out.lt)
                clear x0 x1 x2
                go_wp2_with fail
                go_roundw
                case rel => exact ⟨kk + 1, by go_num, by omega, HTE.out, HQE.out⟩
                case measure => simp only [intOf]; omega
            · obtain rfl : kk = m := by omega
              go_wp2_with fail
              go_roundw
              case rel => exact ⟨j + 1, s2, by go_num, by omega, HT.out⟩
              case measure => simp only [intOf]; omega
    · obtain rfl : j = n := by omega
      have HMN := Lib.hid hT.many
      have hN5 := hT.many
      obtain ⟨N, hNN⟩ : ∃ z, s.es.length = z := ⟨_, rfl⟩
      rw [hNN] at hN5
      have HNN := Lib.hid hNN
      clear hT hNN
      go_wp2_with fail
      go_loopw [27] (fun v wx => ∃ it : Int, v = .int .i64 it ∧ -1 ≤ it ∧ it ≤ (N : Int) + 1 ∧ TwoA W b0 b1 L R per s wx) (fun v _ => ((N : Int) + 1 - intOf v).toNat)
      case atStart => exact ⟨-1, rfl, by omega, by omega, HT.out⟩
      case round =>
        clear HT
        as_aux_lemma =>
          obtain ⟨it, rfl, hi1, hi2, hT⟩ := hrel
          have HT := Lib.hid hT
          obtain ⟨E7, c7, k1, k2⟩ := hT.ledc
          rw [HNN.out] at k2
          have HEN := Lib.hid (entry_led hT.l hT.p it)
          clear hT
          by_cases hle : it ≤ (N : Int)
          · by_cases hin : 0 ≤ it ∧ it < (N : Int)
            · obtain ⟨kk, rfl⟩ : ∃ kk : Nat, it = (kk : Int) := ⟨it.toNat, by omega⟩
              have hkN : kk < s.es.length := by rw [HNN.out]; omega
              have hh : hasP s.es.length (kk : Int) := ⟨Int.natCast_nonneg _, by omega⟩
              have hn1 : enN s (kk : Int) = ((s.es.getD kk e0).q : Int) := by unfold enN; rw [if_pos hh, Int.toNat_natCast]
              have hn2 : enE s (kk : Int) = 0 := by unfold enE; rw [if_pos hh]
              have hn3 : enP s (kk : Int) = (s.es.getD kk e0).ps := by unfold enP; rw [if_pos hh, Int.toNat_natCast]
              unfold EnRet at HEN
              rw [hn1, hn2, hn3] at HEN
              have HAT := Lib.hid (fun w9 (h : TwoA W b0 b1 L R per s w9) => h.at_ hkN)
              rw [HNN.out] at HAT
              generalize s.es.getD kk e0 = en at *
              obtain ⟨eq, ep, et⟩ := en
              dsimp only at HEN HAT
              have r1 : ¬ ((kk : Int) < 0) := by omega
              have r2 : ((kk : Int) == (N : Int)) = false := by simpa using (show ¬ (kk : Int) = (N : Int) by omega)
              have r3 : (kk : Int) < (N : Int) := hin.2
              have r4 : (0 : Int) ≤ (kk : Int) := by omega
              have r5 : ¬ (kk = N) := by omega
              clear hn1 hn2 hn3 hh hkN
              obtain ⟨ml, hml⟩ : ∃ z, ep.length = z := ⟨_, rfl⟩
              rw [hml] at HEN HAT
              go_wp2_with fail
              refine HEN.out.mono ?_
              rintro e w5 ⟨B, cap, rfl, hrow, hb⟩
              have hT5 := HT.out.later hb
              have HT5 := Lib.hid hT5
              have HR5 := Lib.hid hrow
              obtain ⟨g, c9, P, cp, u2, u0, u1, hrp, hl9⟩ := HAT.out w5 hT5
              have HSM := Lib.hid (fun w9 (h9 : Below w5.heap.size w5 w9) => Net.same_any B P cap cp ep ep w9 (hrow.below h9) (hrp.below h9) (by rw [hml]; exact hl9) (by rw [hml]; exact hl9) true (by simp))
              rw [hml] at HSM
              clear hb hT5 hrow hrp HAT k1 k2
              go_wp2_with fail
              refine (HSM.out _ (Below.refl _ _)).mono ?_
              rintro e w6 ⟨rfl, hq6⟩
              have HT6 := Lib.hid (HT5.out.later (Quiet.below hq6))
              clear hq6
              go_wp2_with fail
              go_roundw
              case rel => exact ⟨(kk : Int) + 1, by go_num, by omega, by omega, HT6.out⟩
              case measure => simp only [intOf]; omega
            · have hh : ¬ hasP s.es.length it := by unfold hasP; rw [HNN.out]; exact hin
              have hn1 : enN s it = 0 := by unfold enN; rw [if_neg hh]
              have hn2 : enE s it = 5 := by unfold enE; rw [if_neg hh]
              have hn3 : enP s it = [] := by unfold enP; rw [if_neg hh]
              unfold EnRet at HEN
              rw [hn1, hn2, hn3] at HEN
              clear hn1 hn2 hn3 hh
              have w1t : it + 1 < 9223372036854775807 := by omega
              by_cases h0 : it < 0
              · go_wp2_with fail
                refine HEN.out.mono ?_
                rintro e w5 ⟨B, cap, rfl, _, hb⟩
                have HT5 := Lib.hid (HT.out.later hb)
                clear hb k1 k2
                go_wp2_with fail
                go_roundw
                case rel => exact ⟨it + 1, by go_num, by omega, by omega, HT5.out⟩
                case measure => simp only [intOf]; omega
              · obtain rfl : it = (N : Int) := by omega
                have N0 : (0 : Int) ≤ (N : Int) := Int.natCast_nonneg _
                clear hin hle hi1 hi2 h0
                go_wp2_with fail
                refine HEN.out.mono ?_
                rintro e w5 ⟨B, cap, rfl, _, hb⟩
                have HT5 := Lib.hid (HT.out.later hb)
                have k3 := cell_below' hb k2
                clear hb k1 k2
                go_wp2_with fail
                go_roundw
                case rel => exact ⟨(N : Int) + 1, by go_num, by omega, by omega, HT5.out⟩
                case measure => simp only [intOf]; omega
          · go_wp2_with fail
            go_ret
            exact ⟨rfl, HT.out.b⟩
theorem does_walk (x : Int) (A : Option Addr) (ops : List OpV) (c : Nat) (a k q : Int) (W : World) (hx : I64 x) (hQ : ∀ o ∈ ops, o.Q W) (hr : Row W 0 A (ops.flatMap OpV.cell)) (hsz : ops.length * 48 ≤ 140737488351232)
    (ha : I64 a) (hk : I64 k) (hq : I64 q) :
    Calls Try.prog 3 #[.int .i64 x, .slice A ops.length c, .int .i64 a, .int .i64 k, .int .i64 q] W fun e w' => e = .returned (.bool true) ∧ Below W.heap.size W w' := by
  have h1 : OpsQ W A ops := ⟨hQ, hr, by unfold maxLen; omega⟩
  cases hB : largeB x ops with
  | true => exact dso_no x A ops c a k q W hx h1 (.inl hB)
  | false =>
    by_cases hne : newE x = 0
    · exact dso_go x A ops c a k q W hx h1 ha hk hq hB hne
    · exact dso_no x A ops c a k q W hx h1 (.inr hne)
end Go.Proofs.Ytmijcgcppankcaa.AC
