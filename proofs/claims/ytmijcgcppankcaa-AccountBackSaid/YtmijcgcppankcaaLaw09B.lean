/- The walk of the law AccountBack. -/
import Derived.Test.YtmijcgcppankcaaLaw09C
import Derived.Laws.AppendOwnNone
namespace Go.Proofs.Ytmijcgcppankcaa.AC
open Go.RowKit Go.Proofs.Ytmijcgcppankcaa.Cents Go.Proofs.Ytmijcgcppankcaa.MV Go.Proofs.Ytmijcgcppankcaa.Net Go.Proofs.Ytmijcgcppankcaa.CO
open Go.Maps (Keyed)
set_option linter.unusedVariables false
set_option linter.unusedSimpArgs false

/-- 'append' of any slice, also an empty one. -/
theorem wpList_apps {P : Program} {w : World} {t e size bytes : Nat} (hE : ElemT P t e size bytes) {ops : Array Oper} {rest : List Oper} {o : Oper} {a : Act} {Q : Exit → Act → World → Prop} (hgd : o.guard = none) (s x : Operand)
    (ho : o.op = .call { callee := .builtin .append, args := #[s, x], argTypes := #[t, t] }) {base : Nat} {v : Value} {n : Nat} {xs : List Value} (hs : a.eval s = v) (hown : w.ownsRow base e size v n xs)
    (A : Option Addr) (m c : Nat) (news : List Value) (hx : a.eval x = .slice A m c) (hA : A = none → m = 0 ∧ c = 0) (hl : news.length = m * size) (hnews : Row w 0 A news) (h1 : ∀ u ∈ news, u.oneCell' = true)
    (hbytes : (n + m) * bytes ≤ 140737488355328) (h63 : n + m ≤ maxLen) (hbase : base ≤ w.heap.size)
    (h : ∀ B cap w', w'.ownsRow base e size (.slice B (n + m) cap) (n + m) (xs ++ news) → w.grownBy w' v.ownBlock → wpList P ops Q rest (a.put o.dst (.slice B (n + m) cap)) w') : wpList P ops Q (o :: rest) a w := by
  obtain ⟨i, z, hu, hi, hz, hsz, hby, hzs, hpos⟩ := hE.ex
  cases A with
  | none =>
    obtain ⟨rfl, rfl⟩ := hA rfl
    have hn : news = [] := List.eq_nil_of_length_eq_zero (by simpa using hl)
    subst hn
    refine wpList_append_own_none hgd s x t ho base e i size hu hi v n xs hs hown hx ?_
    obtain ⟨B, cv, rfl, _⟩ := own_slice hown
    have := h B cv w (by rw [Nat.add_zero, List.append_nil]; exact hown) ⟨rfl, rfl, rfl, Nat.le_refl _, fun _ _ _ => rfl⟩
    rwa [Nat.add_zero] at this
  | some ad =>
    refine wpList_append_own w hgd s x t ho base e i z size bytes hu hi hz hsz hby hzs hpos v n xs hs hown ad m c news hx hl (fun j u hj => ?_) h1 h63 hbytes hbase ?_
    · obtain ⟨ad', e', _, hc⟩ := hnews (by have := (List.getElem?_eq_some_iff.1 hj).1; omega)
      cases e'
      exact hc j u hj
    · intro v' w' ho' hg' _
      obtain ⟨B, cv, rfl, _⟩ := own_slice ho'
      exact h B cv w' ho' hg'
theorem info_op : (Try.prog.info? 34).map (fun i => (i.zero, i.size, i.bytes)) = some (some (.agg #[.int .i64 0, .int .i64 0, .int .i64 0, .slice none 0 0]), 4, 48) := by kernel_rfl
theorem E_op : ElemT Try.prog 22 34 4 48 := .mk' Try.underlying22 info_op rfl (by decide)
theorem op_one (ops : List OpV) : ∀ u ∈ ops.flatMap OpV.cell, u.oneCell' = true := fun u hu => by
  obtain ⟨p, _, hp⟩ := List.mem_flatMap.1 hu
  simp [OpV.cell] at hp
  rcases hp with rfl | rfl | rfl | rfl <;> rfl
theorem own_box4 (w : World) (a b c d : Value) : (w.alloc (.cells #[a, b, c, d] 34)).ownsRow w.heap.size 34 4 (.slice (some ⟨w.heap.size, 0, none⟩) 1 1) 1 [a, b, c, d] :=
  ⟨rfl, .inr ⟨w.heap.size, 1, #[a, b, c, d], rfl, Nat.le_refl _, heap_alloc_new w _, Nat.le_refl _, by unfold maxLen; omega, rfl, rfl⟩⟩
theorem OpsQ.below {W w' : World} {A : Option Addr} {ops : List OpV} (h : OpsQ W A ops) (hb : Below W.heap.size W w') : OpsQ w' A ops := ⟨fun o ho => OpV.Q.below (W := W) (h.q o ho) hb, h.r.below hb, h.l⟩
theorem ints_snocB (l : List Int) (x : Int) : ints (l ++ [x]) = ints l ++ [.int .i64 x] := by simp [ints]
def wasL (per : Nat) (s : St) (ps : List Post) : List Int := ps.map fun p => balR per s.es p.acc p.ct ((per : Int) - 1)
theorem wasL_len (per : Nat) (s : St) (ps : List Post) : (wasL per s ps).length = ps.length := by simp [wasL]
theorem wasL_snoc (per : Nat) (s : St) (ps : List Post) (p : Post) : wasL per s (ps ++ [p]) = wasL per s ps ++ [balR per s.es p.acc p.ct ((per : Int) - 1)] := by simp [wasL]
theorem wasL_at {per : Nat} {s : St} {ps : List Post} {k : Nat} (h : k < ps.length) : (ints (wasL per s ps))[k]? = some (.int .i64 (balR per s.es ps[k].acc ps[k].ct ((per : Int) - 1))) := by
  simp [ints, wasL, h]
theorem rS_bad {per : Nat} {s : St} {i x : Int} (h : rE per s i x ≠ 0) : rS per s i x = s := by unfold rS; rw [if_neg h]
theorem pN_bad {per : Nat} {s : St} {x : Int} {ps : List Post} (h : pE per s x ps ≠ 0) : pN per s x ps = 0 := by unfold pN; rw [if_neg h]
theorem rN_bad {per : Nat} {s : St} {i x : Int} (h : rE per s i x ≠ 0) : rN per s i x = 0 := by unfold rN; rw [if_neg h]
set_option maxHeartbeats 8000000 in
set_option maxRecDepth 100000 in
theorem back_walk (x : Int) (A : Option Addr) (ops : List OpV) (c : Nat) (o : OpV) (q : Int) (W : World) (hx : I64 x) (hQ : ∀ o ∈ ops, o.Q W) (hr : Row W 0 A (ops.flatMap OpV.cell)) (hsz : ops.length * 48 ≤ 140737488351232 ∧ (A = none → c = 0)) (hoQ : o.Q W) (hq : I64 q) :
    Calls Try.prog 6 #[.int .i64 x, .slice A ops.length c, o.val, .int .i64 q] W fun e w' => e = .returned (.bool true) ∧ Below W.heap.size W w' := by
  have h1 : OpsQ W A ops := ⟨hQ, hr, by unfold maxLen; omega⟩
  have hAl : A = none → ops.length = 0 ∧ c = 0 := fun h => by
    refine ⟨?_, hsz.2 h⟩
    by_cases h0 : ops.length = 0
    · exact h0
    · obtain ⟨ad, he, _⟩ := hr (by rw [flat_len op_len]; omega)
      rw [h] at he
      cases he
  obtain ⟨d, p, e, oA, oc, ps⟩ := o
  have hal := fun ob => alloc1 W ob
  have H1 := Lib.hid (fun ob => h1.below (hal ob))
  have HOQ := Lib.hid (fun ob => OpV.Q.below (W := W) hoQ (hal ob))
  have HW := Lib.hid (fun ob => (Below.refl W.heap.size W).trans ((hal ob).mono (Nat.le_refl _)))
  have HBX := Lib.hid (fun cs => Blk.new W 34 cs)
  obtain ⟨n, hn⟩ : ∃ n, ops.length = n := ⟨_, rfl⟩
  obtain ⟨m, hm⟩ : ∃ m, ps.length = m := ⟨_, rfl⟩
  have HN := Lib.hid hn
  have HM := Lib.hid hm
  have hps := hoQ.i
  have hpsl := hoQ.l
  dsimp only at hps hpsl
  unfold OpV.val
  dsimp only
  have HLA := Lib.hid (fun (w1 : World) (B : Option Addr) (c' : Nat) (hrow : Row w1 0 B (((⟨d, p, e, oA, oc, ps⟩ : OpV) :: ops).flatMap OpV.cell)) b hb => large_is x B (⟨d, p, e, oA, oc, ps⟩ :: ops) c' w1 hx hrow (fun o ho => by
      rcases List.mem_cons.1 ho with h | h
      · rw [h]; exact hpsl
      · exact (hQ o h).l) (by rw [List.length_cons, hn]; unfold maxLen; omega) b hb)
  rw [show ((⟨d, p, e, oA, oc, ps⟩ : OpV) :: ops).length = 1 + n by rw [List.length_cons, hn]; omega] at HLA
  rw [hn, hm]
  rw [hn] at hAl
  have hnl : (1 + n) * 48 ≤ 140737488355328 := by omega
  have hnm : 1 + n ≤ maxLen := by unfold maxLen; omega
  have HPS := Lib.hid hps
  clear hQ hr hsz hoQ h1 hal hn hm hps hpsl
  go_enter Try.func6, Try.ntmps6
  go_wp2_with fail
  refine (awake09 _).mono ?_
  rintro e' w1 ⟨rfl, hb⟩
  have HWW := Lib.hid (HW.out (.cells #[.int .i64 d, .int .i64 p, .int .i64 e, .slice oA m oc] 34))
  have H1 := Lib.hid (H1.out (.cells #[.int .i64 d, .int .i64 p, .int .i64 e, .slice oA m oc] 34))
  have HOQ := Lib.hid (HOQ.out (.cells #[.int .i64 d, .int .i64 p, .int .i64 e, .slice oA m oc] 34))
  have HBX := Lib.hid (HBX.out #[.int .i64 d, .int .i64 p, .int .i64 e, .slice oA m oc])
  obtain ⟨W1, hW1⟩ : ∃ W1, W.alloc (.cells #[.int .i64 d, .int .i64 p, .int .i64 e, .slice oA m oc] 34) = W1 := ⟨_, rfl⟩
  rw [hW1] at hb HWW H1 HOQ HBX
  have hBx : W.heap.size < W1.heap.size := by rw [← hW1]; simp
  have HB1 := Lib.hid hb
  obtain ⟨Bx, hBxe⟩ : ∃ Bx, W.heap.size = Bx := ⟨_, rfl⟩
  rw [hBxe] at HBX hBx ⊢
  have HBE := Lib.hid hBxe
  have hbx1 := HBX.out.below HB1.out hBx
  have b0 : w1.cell? ⟨Bx, 0, none⟩ = some (.int .i64 d) := hbx1.cell 0
  have b1 : w1.cell? ⟨Bx, 1, none⟩ = some (.int .i64 p) := hbx1.cell 1
  have b2 : w1.cell? ⟨Bx, 2, none⟩ = some (.int .i64 e) := hbx1.cell 2
  have b3 : w1.cell? ⟨Bx, 3, none⟩ = some (.slice oA m oc) := hbx1.cell 3
  have HROW := Lib.hid (H1.out.r.below (HB1.out.trans ((alloc1 w1 (.cells #[.int .i64 d, .int .i64 p, .int .i64 e, .slice oA m oc] 34)).mono HB1.out.size)))
  have HLN := Lib.hid (show (ops.flatMap OpV.cell).length = n * 4 by rw [flat_len op_len, HN.out])
  have HON := Lib.hid (op_one ops)
  clear hb hW1 hbx1 HW hBxe
  go_wp2_with (at_builtin; refine wpList_apps E_op rfl (.tmp 30) (.tmp 31) rfl rfl (own_box4 w1 (.int .i64 d) (.int .i64 p) (.int .i64 e) (.slice oA m oc)) A n c (ops.flatMap OpV.cell) rfl hAl HLN.out HROW.out HON.out hnl hnm (by simp) ?_; intro B' c' w2 hown2 hg2; have HO2 := Lib.hid hown2; have HG2 := Lib.hid (show World.grownBy _ w2 (some w1.heap.size) from hg2); clear hown2 hg2)
  have hB2 : Below W1.heap.size W1 w2 := (HB1.out.alloc HB1.out.size _).grown HG2.out (by simp; have := HB1.out.size; omega) (fun j hj => by
    injection hj with hj
    subst hj
    exact HB1.out.size)
  have hrow2 : Row w2 0 B' (((⟨d, p, e, oA, oc, ps⟩ : OpV) :: ops).flatMap OpV.cell) := by
    have := (Row.of_own HO2.out (by decide)).weak (Nat.zero_le _)
    rw [List.flatMap_cons]
    rw [show OpV.cell ⟨d, p, e, oA, oc, ps⟩ = [.int .i64 d, .int .i64 p, .int .i64 e, .slice oA m oc] by unfold OpV.cell; rw [HM.out]]
    exact this
  have HB2 := Lib.hid hB2
  have HROW2 := Lib.hid hrow2
  clear hB2 hrow2 HG2 HO2 b0 b1 b2 b3 HROW HLN HON HB1
  cases hB : largeB x (⟨d, p, e, oA, oc, ps⟩ :: ops) with
  | true =>
    have HLB := Lib.hid (HLA.out w2 B' c' HROW2.out true hB)
    clear hB
    go_wp2_with fail
    refine HLB.out.mono ?_
    rintro e' w3 ⟨rfl, rfl⟩
    go_wp2_with fail
    go_ret
    rw [← HBE.out] at *
    exact ⟨rfl, HWW.out.trans (HB2.out.mono HWW.out.size)⟩
  | false =>
    have HLB := Lib.hid (HLA.out w2 B' c' HROW2.out false hB)
    obtain ⟨h40, h24⟩ := large_noC hB
    have HOP40 := Lib.hid (show ∀ o ∈ ops, o.ps.length ≤ 40 from fun o ho => h40 o (List.mem_cons_of_mem _ ho))
    have hm40 : m ≤ 40 := by rw [← HM.out]; exact h40 _ (List.mem_cons_self ..)
    have hn24 : n ≤ 24 := by rw [← HN.out]; rw [List.length_cons] at h24; omega
    clear hB h40 h24
    by_cases hne : newE x = 0
    rotate_left
    · have HNO := Lib.hid (new_no x w2 hx hne)
      clear hne
      go_wp2_with fail
      refine HLB.out.mono ?_
      rintro e' w3 ⟨rfl, rfl⟩
      go_wp2_with fail
      refine HNO.out.mono ?_
      rintro e' w3 ⟨rfl, hb⟩
      have HB3 := Lib.hid (HB2.out.trans (hb.mono HB2.out.size))
      clear hb
      go_wp2_with fail
      go_ret
      rw [← HBE.out] at *
      exact ⟨rfl, HWW.out.trans (HB3.out.mono HWW.out.size)⟩
    · have HNO := Lib.hid (new_led x w2 hx hne)
      clear hne
      go_wp2_with fail
      refine HLB.out.mono ?_
      rintro e' w3 ⟨rfl, rfl⟩
      go_wp2_with fail
      refine HNO.out.mono ?_
      rintro e' w3 ⟨L, per, rfl, rfl, hL, hP, hb⟩
      obtain ⟨b0, hb0⟩ : ∃ b0, w2.heap.size = b0 := ⟨_, rfl⟩
      have hWb : W1.heap.size ≤ b0 := by have := HB2.out.size; omega
      rw [hb0] at hL
      have HL3 := Lib.hid hL
      have HP3 := Lib.hid hP
      have HB3 := Lib.hid (HB2.out.trans (hb.mono HB2.out.size))
      have hper1 := hP.per1
      have hper2 := hP.per2
      clear hb hL hP hb0 HNO HLA HLB HROW2 HB2
      go_wp2_with fail
      go_loopw [43] (fun v wr => ∃ (j : Nat) (s : St), v = .int .i64 (j : Int) ∧ j ≤ n ∧ Led b0 L per s wr ∧ LedP per s ∧ Below W1.heap.size W1 wr) (fun v _ => n - (intOf v).toNat)
      case atStart => exact ⟨0, ⟨0, []⟩, rfl, by omega, HL3.out, HP3.out, HB3.out⟩
      case round =>
        clear HL3 HP3 HB3
        obtain ⟨j, s, rfl, hj, hLr, hPr, hbr⟩ := hrel
        have g0 : (0 : Int) ≤ (j : Int) := Int.natCast_nonneg _
        by_cases hlt : j < n
        · have hjl : j < ops.length := by rw [HN.out]; exact hlt
          obtain ⟨ad, rfl, c0, c1, c2, c3⟩ := op_cells (H1.out.r.below hbr) hjl
          have hmm : ops[j] ∈ ops := List.getElem_mem _
          obtain ⟨o, ho⟩ : ∃ o, o = ops[j] := ⟨_, rfl⟩
          rw [← ho] at c0 c1 c2 c3 hmm
          have HD := Lib.hid (H1.out.at_ HOP40.out hLr hPr hbr o hmm)
          have HBA := Lib.hid (fun ob => hbr.trans ((alloc1 wr ob).mono hbr.size))
          have HP2 := Lib.hid (ledp_op (o := o) hPr (H1.out.q o hmm).i)
          have g1 : (j : Int) < (n : Int) := by omega
          clear hLr hPr hbr hmm ho
          obtain ⟨od, op, oe, oA', oc', ps'⟩ := o
          unfold OpV.val at HD
          dsimp only at HD c0 c1 c2 c3
          obtain ⟨m', hm'⟩ : ∃ m, ps'.length = m := ⟨_, rfl⟩
          rw [hm'] at HD c3
          clear hm'
          go_wp2_with fail
          refine (HD.out _).mono ?_
          rintro e' w6 ⟨rfl, hL6, hk6⟩
          have HL6 := Lib.hid hL6
          have HB6 := Lib.hid (hk6.below (HBA.out _) hWb)
          clear hL6 hk6
          go_wp2_with fail
          go_roundw
          case rel => exact ⟨j + 1, _, by go_num, by omega, HL6.out, HP2.out, HB6.out⟩
          case measure => simp only [intOf]; omega
        · obtain rfl : j = n := by omega
          have HLR := Lib.hid hLr
          have HPR := Lib.hid hPr
          have HBR := Lib.hid hbr
          obtain ⟨wl, hwl⟩ : ∃ wl : World, wl = wr := ⟨_, rfl⟩
          rw [← hwl] at HLR HBR ⊢
          have d3 : wl.cell? ⟨Bx, 3, none⟩ = some (.slice oA m oc) := (HBX.out.below HBR.out hBx).cell 3
          have hperI : I64 ((per : Int) - 1) := by unfold I64; omega
          have wp1 : IntKind.i64.wrap ((per : Int) - 1) = (per : Int) - 1 := IntWalk.i64_in _ (by omega)
          clear hLr hPr hbr hwl
          go_wp2_with fail
          go_loopw [13, 54] (fun v vi wr => ∃ (k : Nat) (B : Option Addr) (cb : Nat), v = .slice B k cb ∧ vi = .int .i64 (k : Int) ∧ k ≤ m ∧ wr.ownsRow wl.heap.size 2 1 (.slice B k cb) k (ints (wasL per s (ps.take k))) ∧ Below wl.heap.size wl wr) (fun _ vi _ => m - (intOf vi).toNat)
          case atStart => exact ⟨0, none, 0, rfl, rfl, by omega, World.ownsRow_nil _ _ _ _, Below.refl _ _⟩
          case round =>
            clear d3
            obtain ⟨k, B, cb, rfl, rfl, hk, hown, hbe⟩ := hrel
            have HO := Lib.hid hown
            have HBE2 := Lib.hid hbe
            have HBW := Lib.hid (HBR.out.trans (hbe.mono HBR.out.size))
            have k0 : (0 : Int) ≤ (k : Int) := Int.natCast_nonneg _
            clear hown hbe
            by_cases hkm : k < m
            · have hkl : k < ps.length := by rw [HM.out]; exact hkm
              obtain ⟨ad, rfl, _, c0, c1, c2⟩ := Net.Row.post (HOQ.out.r.below HBW.out) hkl
              have hta := take_end hkl
              have hpm : ps[k] ∈ ps := List.getElem_mem _
              obtain ⟨pz, hpz⟩ : ∃ p, p = ps[k] := ⟨_, rfl⟩
              rw [← hpz] at c0 c1 c2 hta hpm
              have hpI := HPS.out pz hpm
              have HT := Lib.hid hta
              obtain ⟨pa, pc, px⟩ := pz
              dsimp only at c0 c1 c2
              have HBAL := Lib.hid (fun w9 (hb9 : Below wl.heap.size wl w9) => balance_led (HLR.out.later hb9) HPR.out pa pc ((per : Int) - 1) hpI.1 hpI.2.1 hperI _ rfl)
              have HSN := Lib.hid (show ∀ y, balR per s.es pa pc ((per : Int) - 1) = y → ints (wasL per s (ps.take (k + 1))) = ints (wasL per s (ps.take k)) ++ [.int .i64 y] from fun y hy => by rw [HT.out, wasL_snoc, ints_snocB, hy])
              obtain ⟨y, hy⟩ : ∃ y, balR per s.es pa pc ((per : Int) - 1) = y := ⟨_, rfl⟩
              rw [hy] at HBAL
              have HSN := Lib.hid (HSN.out y hy)
              have HBA := Lib.hid (fun ob => HBE2.out.trans ((alloc1 wr ob).mono HBE2.out.size))
              have k1 : (k : Int) < (m : Int) := by omega
              have hq1 : (k + 1) * 8 ≤ 140737488355328 := by omega
              have hq2 : k + 1 ≤ maxLen := by unfold maxLen; omega
              have hszr : wl.heap.size ≤ wr.heap.size := HBE2.out.size
              clear hta hpm hpI hy hpz
              go_wp2_with fail
              refine (HBAL.out _ (HBA.out _)).mono ?_
              rintro e' w5 ⟨rfl, hb5⟩
              have HB5 := Lib.hid ((HBA.out _).trans (hb5.mono (HBA.out _).size))
              have HO5 := Lib.hid (own_below (own_below HO.out (alloc1 wr _)) hb5)
              have hsz5 : wl.heap.size ≤ w5.heap.size := HB5.out.size
              clear hb5
              go_wp2_with (at_builtin; refine wpList_app E_i64 rfl (.tmp 58) (.tmp 67) rfl rfl (HO5.out.alloc _) ⟨w5.heap.size, 0, none⟩ 1 1 [.int .i64 y] rfl rfl (World.news_of_block (heap_alloc_new w5 _)) (by simp [Value.oneCell']) hq1 hq2 (by simp; omega) (by decide) ?_; intro g6 cap6 w6 hown6 hg6 hat6; have HO6 := Lib.hid hown6; have HB6 := Lib.hid ((HB5.out.alloc HB5.out.size (.cells #[.int .i64 y] 2)).grown hg6 (by simp; omega) (fun j hj => (HO5.out.lt j hj).1)); clear hown6 hg6 hat6)
              go_roundw
              case rel => exact ⟨k + 1, _, _, rfl, by go_num, by omega, by rw [HSN.out]; exact HO6.out, HB6.out⟩
              case measure => simp only [intOf]; omega
            · obtain rfl : k = m := by omega
              rw [List.take_of_length_le (show ps.length ≤ k by rw [HM.out]; exact Nat.le_refl _)] at HO
              have hbxr := HBX.out.below HBW.out hBx
              have d1 : wr.cell? ⟨Bx, 1, none⟩ = some (.int .i64 p) := hbxr.cell 1
              have d3 : wr.cell? ⟨Bx, 3, none⟩ = some (.slice oA k oc) := hbxr.cell 3
              have hpost := post_led (HLR.out.later HBE2.out) HPR.out p oA ps oc (HOQ.out.r.below HBW.out) (by rw [HM.out]; omega) HPS.out
              rw [HM.out] at hpost
              have HPOST := Lib.hid hpost
              have HPP := Lib.hid (ledp_post (x := p) HPR.out HPS.out)
              clear hpost hbxr
              by_cases hpe : pE per s p ps = 0
              rotate_left
              · have HPN := Lib.hid (pN_bad hpe)
                have hpe2 : (pE per s p ps == 0) = false := by simpa using hpe
                clear hpe
                go_wp2_with fail
                refine HPOST.out.mono ?_
                rintro e' w8 ⟨rfl, _, hk8⟩
                have HB8 := Lib.hid (hk8.below HBW.out hWb)
                clear hk8
                rw [HPN.out]
                obtain ⟨z, hz⟩ : ∃ z, pE per s p ps = z := ⟨_, rfl⟩
                rw [hz] at hpe2 ⊢
                clear hz
                go_wp2_with fail
                go_ret
                rw [← HBE.out] at *
                exact ⟨rfl, HWW.out.trans (HB8.out.mono HWW.out.size)⟩
              · obtain ⟨N, hN⟩ : ∃ N, s.es.length = N := ⟨_, rfl⟩
                have hN5 : N ≤ 5000 := by rw [← hN]; exact HPR.out.len
                have hpn : pN per s p ps = (N : Int) := by unfold pN; rw [if_pos hpe, hN]
                have HFACTS := Lib.hid (fun h => back_facts (q := q) HPR.out hpe h)
                rw [hN] at HFACTS
                have HHN := Lib.hid hN
                have HREV := Lib.hid (fun w9 (h9 : Led b0 L per (pS per s p ps) w9) => rev_led h9 HPP.out (N : Int) q)
                have HRP := Lib.hid (ledp_rev (at_ := (N : Int)) (x := q) HPP.out)
                have HPN := Lib.hid hpn
                have HPE := Lib.hid hpe
                clear hpe hpn hN
                go_wp2_with fail
                refine HPOST.out.mono ?_
                rintro e' w8 ⟨rfl, hL8, hk8⟩
                have HB8 := Lib.hid (hk8.below HBW.out hWb)
                have HO8 := Lib.hid (hk8.own HO.out (by decide) (by decide))
                have HL8 := Lib.hid hL8
                clear hk8 hL8
                rw [HPN.out, HPE.out]
                by_cases hre : rE per (pS per s p ps) (N : Int) q = 0
                rotate_left
                · have HRN := Lib.hid (rN_bad hre)
                  have hre2 : (rE per (pS per s p ps) (N : Int) q == 0) = false := by simpa using hre
                  clear hre
                  go_wp2_with fail
                  refine (HREV.out _ HL8.out).mono ?_
                  rintro e' w9 ⟨rfl, _, hk9⟩
                  have HB9 := Lib.hid (hk9.below HB8.out hWb)
                  clear hk9
                  rw [HRN.out]
                  obtain ⟨z, hz⟩ : ∃ z, rE per (pS per s p ps) (N : Int) q = z := ⟨_, rfl⟩
                  rw [hz] at hre2 ⊢
                  clear hz
                  go_wp2_with fail
                  go_ret
                  rw [← HBE.out] at *
                  exact ⟨rfl, HWW.out.trans (HB9.out.mono HWW.out.size)⟩
                · obtain ⟨_, f2, f3, f4⟩ := HFACTS.out hre
                  have HF4 := Lib.hid f4
                  have HRN := Lib.hid f2
                  have HRE := Lib.hid hre
                  obtain ⟨t1, t2⟩ := f3 ((per : Int) - 1)
                  obtain ⟨s2, hs2⟩ : ∃ s2, rS per (pS per s p ps) (N : Int) q = s2 := ⟨_, rfl⟩
                  rw [hs2] at HF4 HRP t1 t2
                  have HS2 := Lib.hid hs2
                  have HR1 := Lib.hid (fun w9 (h9 : Led b0 L per s2 w9) => rev_led h9 HRP.out (N : Int) ((per : Int) - 1))
                  have HR2 := Lib.hid (fun w9 (h9 : Led b0 L per s2 w9) => rev_led h9 HRP.out ((N : Int) + 1) ((per : Int) - 1))
                  have HT1 := Lib.hid t1
                  have HT2 := Lib.hid t2
                  have HSB1 := Lib.hid (show rS per s2 (N : Int) ((per : Int) - 1) = s2 from rS_bad (by rw [t1]; decide))
                  have HBAL := Lib.hid (fun (w9 : World) (h9 : Led b0 L per s2 w9) a k (ha : I64 a) (hk : I64 k) => balance_led h9 HRP.out a k ((per : Int) - 1) ha hk hperI _ (HF4.out a k))
                  clear hs2 f2 f3 f4 hre t1 t2
                  go_wp2_with fail
                  refine (HREV.out _ HL8.out).mono ?_
                  rintro e' w9 ⟨rfl, hL9, hk9⟩
                  have HB9 := Lib.hid (hk9.below HB8.out hWb)
                  have HO9 := Lib.hid (hk9.own HO8.out (by decide) (by decide))
                  rw [HS2.out] at hL9
                  have HL9 := Lib.hid hL9
                  have e3 : w9.cell? ⟨Bx, 3, none⟩ = some (.slice oA k oc) := (HBX.out.below HB9.out hBx).cell 3
                  have wn1 : IntKind.i64.wrap ((N : Int) + 1) = (N : Int) + 1 := IntWalk.i64_in _ (by omega)
                  clear hk9 hL9 d1 d3
                  rw [HRN.out, HRE.out]
                  go_wp2_with fail
                  go_loopw [97] (fun v wr => ∃ i : Nat, v = .int .i64 (i : Int) ∧ i ≤ k ∧ Below w9.heap.size w9 wr) (fun v _ => k - (intOf v).toNat)
                  case atStart => exact ⟨0, rfl, by omega, Below.refl _ _⟩
                  case round =>
                    clear e3
                    obtain ⟨i, rfl, hi, hbi⟩ := hrel
                    have HBI := Lib.hid hbi
                    have i0 : (0 : Int) ≤ (i : Int) := Int.natCast_nonneg _
                    clear hbi
                    by_cases hik : i < k
                    · have hkl : i < ps.length := by rw [HM.out]; exact hik
                      have HBW9 := Lib.hid (HB9.out.trans (HBI.out.mono HB9.out.size))
                      obtain ⟨ad, rfl, _, c0, c1, c2⟩ := Net.Row.post (HOQ.out.r.below HBW9.out) hkl
                      have hpm : ps[i] ∈ ps := List.getElem_mem _
                      have hwas := wasL_at (per := per) (s := s) hkl
                      obtain ⟨pz, hpz⟩ : ∃ p, p = ps[i] := ⟨_, rfl⟩
                      rw [← hpz] at c0 c1 c2 hpm hwas
                      have hpI := HPS.out pz hpm
                      obtain ⟨pa, pc, px⟩ := pz
                      dsimp only at c0 c1 c2 hwas
                      have HBL := Lib.hid (fun w11 (h11 : Below w9.heap.size w9 w11) => HBAL.out w11 (HL9.out.later h11) pa pc hpI.1 hpI.2.1)
                      obtain ⟨y, hy⟩ : ∃ y, balR per s.es pa pc ((per : Int) - 1) = y := ⟨_, rfl⟩
                      rw [hy] at HBL hwas
                      obtain ⟨adw, hadw, _, hcw⟩ := (Row.of_own HO9.out (by decide)) (by rw [ints_len, wasL_len, HM.out]; omega)
                      cases hadw
                      have z5 := cell_below' HBI.out (hcw i _ hwas)
                      have hadb : adw.block < wr.heap.size := by
                        have := World.block_lt_of_cell? _ _ z5
                        rwa [Go.Proofs.Ytmijcgcppankcaa.block_add] at this
                      have i1 : (i : Int) < (k : Int) := by omega
                      have HBA := Lib.hid (fun ob => HBI.out.trans ((alloc1 wr ob).mono HBI.out.size))
                      have z6 := fun ob => cell_below' (alloc1 wr ob) z5
                      have HZ6 := Lib.hid z6
                      have HBXZ := Lib.hid (fun cs => Blk.new wr 48 cs)
                      have hbxz := HBXZ.out #[.int .i64 pa, .int .i64 pc, .int .i64 px]
                      have z6 := HZ6.out (.cells #[.int .i64 pa, .int .i64 pc, .int .i64 px] 48)
                      have hba := HBA.out (.cells #[.int .i64 pa, .int .i64 pc, .int .i64 px] 48)
                      obtain ⟨wz, hwz⟩ : ∃ wz, wr.alloc (.cells #[.int .i64 pa, .int .i64 pc, .int .i64 px] 48) = wz := ⟨_, rfl⟩
                      obtain ⟨Q, hQ⟩ : ∃ Q, wr.heap.size = Q := ⟨_, rfl⟩
                      rw [hwz] at hbxz z6 hba
                      rw [hQ] at hbxz
                      have HWZ := Lib.hid hwz
                      have HQ := Lib.hid hQ
                      have HBA9 := Lib.hid hba
                      have z0 : wz.cell? ⟨Q, 0, none⟩ = some (.int .i64 pa) := hbxz.cell 0
                      have z1 : wz.cell? ⟨Q, 1, none⟩ = some (.int .i64 pc) := hbxz.cell 1
                      clear hpm hpI hpz hwas hcw hy z5 HBA HZ6 HBXZ hbxz hba hwz hQ
                      go_wp2_with fail
                      try rw [HWZ.out]
                      try rw [HQ.out]
                      have HLT := Lib.hid (HBA9.out.drew)
                      have HLZ := Lib.hid (Below.drew (Below.refl wz.heap.size wz))
                      go_region_held3 (fun V => V.cell? ⟨Q, 0, none⟩ = some (.int .i64 pa) ∧ V.cell? ⟨Q, 1, none⟩ = some (.int .i64 pc) ∧ V.cell? (adw.add i) = some (.int .i64 y))
                        (first | (go_split_ands; exact ⟨b1, b2, b3⟩) | (go_keep; done))
                        ((go_at_call 21; refine (HBL.out _ HLT.out).mono ?_; rintro e' w11 ⟨rfl, hb11⟩; have HL5 := Lib.hid (HLT.out.trans (hb11.mono HLT.out.size)); have HL6 := Lib.hid (HLZ.out.trans (hb11.mono HLZ.out.size)); clear hb11; have b1 := cell_below' HL6.out z0; have b2 := cell_below' HL6.out z1; have b3 := cell_below' HL6.out z6))
                      all_goals
                        go_wp2_with fail
                        go_roundw
                        case rel => exact ⟨i + 1, by go_num, by omega, HL5.out⟩
                        case measure => simp only [intOf]; omega
                    · obtain rfl : i = k := by omega
                      have HLQ := Lib.hid (HL9.out.later HBI.out)
                      have HB10 := Lib.hid (HB9.out.trans (HBI.out.mono HB9.out.size))
                      go_wp2_with fail
                      refine (HR1.out _ HLQ.out).mono ?_
                      rintro e' w11 ⟨rfl, hL11, hk11⟩
                      rw [HSB1.out] at hL11
                      have HL11 := Lib.hid hL11
                      have HB11 := Lib.hid (hk11.below HB10.out hWb)
                      clear hL11 hk11
                      rw [HT1.out, rN_bad (by rw [HT1.out]; decide)]
                      go_wp2_with fail
                      refine (HR2.out _ HL11.out).mono ?_
                      rintro e' w12 ⟨rfl, _, hk12⟩
                      have HB12 := Lib.hid (hk12.below HB11.out hWb)
                      clear hk12
                      rw [HT2.out, rN_bad (by rw [HT2.out]; decide)]
                      go_wp2_with fail
                      go_ret
                      rw [← HBE.out] at *
                      exact ⟨rfl, HWW.out.trans (HB12.out.mono HWW.out.size)⟩
end Go.Proofs.Ytmijcgcppankcaa.AC
