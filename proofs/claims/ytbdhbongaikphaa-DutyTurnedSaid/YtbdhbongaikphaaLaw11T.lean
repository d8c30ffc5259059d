/- The walk of the law DutyTurned. -/
import Derived.Test.YtbdhbongaikphaaDutyV
import Derived.Test.YtbdhbongaikphaaLnI
import Derived.Deep.DeepCutAuto
namespace Go.Proofs.Ytbdhbongaikphaa.BK
open Go.RowKit Go.Proofs.Ytbdhbongaikphaa.Cents Go.Proofs.Ytbdhbongaikphaa.DU Go.Proofs.Ytbdhbongaikphaa.Exact
set_option linter.unusedVariables false
set_option linter.unusedSimpArgs false

theorem info_line : (Try.prog.info? 45).map (fun i => (i.zero, i.size, i.bytes)) = some (some (.agg #[.int .i64 0, .int .i64 0, .int .i64 0, .int .i64 0, .int .i64 0]), 5, 40) := by kernel_rfl
theorem E_line : ElemT Try.prog 23 45 5 40 := .mk' Try.underlying23 info_line rfl (by decide)
theorem lcells_turn {ls : List Ln} {k j : Nat} (h : k + j + 1 = ls.length) : lcells (ls.reverse.take (k + 1)) = lcells (ls.reverse.take k) ++ (lnAt ls j).cell := by
  have hk : k < ls.reverse.length := by rw [List.length_reverse]; omega
  have e : ls.reverse[k] = lnAt ls j := by
    rw [List.getElem_reverse]
    unfold lnAt
    rw [List.getD_eq_getElem?_getD, List.getElem?_eq_getElem (by omega)]
    simp only [Option.getD_some]
    congr 1
    omega
  rw [List.take_succ_eq_append_getElem hk, e]
  unfold lcells
  rw [List.flatMap_append]
  simp
theorem dus_some {f : Nat → LnD} {n : Nat} {x : Du} (h : x ∈ dus f n) : 1 ≤ x.ls.length ∧ x.ls.length ≤ n ∧ x.ls.headD 0 < n ∧ x.ls.getLastD 0 < n := by
  obtain ⟨i, hi, _, rfl⟩ := dus_mem h
  rw [duAt_ls]
  have hm : i ∈ grp f n i := mem_grp.2 ⟨hi, rfl⟩
  have hne : grp f n i ≠ [] := fun c => by rw [c] at hm; cases hm
  have h1 : 0 < (grp f n i).length := List.length_pos_iff.2 hne
  refine ⟨h1, grp_len f n i, ?_, ?_⟩
  · obtain ⟨a, tl, e⟩ := List.exists_cons_of_ne_nil hne
    rw [e]
    have : a ∈ grp f n i := by rw [e]; simp
    exact (mem_grp.1 this).1
  · rw [List.getLastD_eq_getLast?, List.getLast?_eq_some_getLast hne]
    exact (mem_grp.1 (List.getLast_mem hne)).1
/-- What the law needs of both answers. -/
structure TF (n : Nat) (X Y : List Du) : Prop where
  len : X.length = Y.length
  one : ∀ x ∈ X, Y.countP (matD n x) = 1
  sx : ∀ x ∈ X, 1 ≤ x.ls.length ∧ x.ls.length ≤ n ∧ x.ls.headD 0 < n ∧ x.ls.getLastD 0 < n
  sy : ∀ x ∈ Y, 1 ≤ x.ls.length ∧ x.ls.length ≤ n ∧ x.ls.headD 0 < n ∧ x.ls.getLastD 0 < n
  le : X.length ≤ n
theorem turn_facts (its : List It) (R : List PRow) (day : Int) (ls : List Ln) : TF ls.length (findL its R day ls) (findL its R day ls.reverse) := by
  unfold findL
  rw [findE_rev, List.length_reverse]
  by_cases h : findE its R day ls = 0
  · rw [if_pos h, if_pos h]
    have hm := mirror_fL its R day ls
    refine ⟨len_mirror hm, fun x hx => match_one hm hx, fun x hx => dus_some hx, fun x hx => dus_some hx, by rw [dus_len]; exact firsts_len _ _⟩
  · rw [if_neg h, if_neg h]
    exact ⟨rfl, fun x hx => (by cases hx), fun x hx => (by cases hx), fun x hx => (by cases hx), Nat.zero_le _⟩
theorem countP_take {l : List Du} {s : Nat} (h : s < l.length) (p : Du → Bool) : (l.take (s + 1)).countP p = (l.take s).countP p + if p l[s] = true then 1 else 0 := by
  rw [List.take_succ_eq_append_getElem h, List.countP_append, List.countP_singleton]
theorem take_len_lt {l : List Du} {s : Nat} (p : Du → Bool) (h : l.countP p = 1) : (l.take s).countP p ≤ 1 := by
  rw [← h]
  exact (List.take_sublist s l).countP_le
set_option maxHeartbeats 1000000 in
set_option maxRecDepth 100000 in
theorem turned_large (A B : Option Addr) (n m c d : Nat) (day : Int) (w : World) (h : 50 < n ∨ 30 < m) :
    Calls Try.prog 5 #[.slice A n c, .slice B m d, .int .i64 day] w fun e w' => e = .returned (.bool true) ∧ Below w.heap.size w w' := by
  by_cases h1 : 50 < n
  · have h2 : (50 : Int) < (n : Int) := by omega
    clear h
    go_enter Try.func5, Try.ntmps5
    go_wp2_with fail
    refine (awake11 _).mono ?_
    rintro e w1 ⟨rfl, hb⟩
    have HB := Lib.hid hb
    clear hb
    go_wp2_with fail
    go_ret
    exact ⟨rfl, HB.out⟩
  · have h2 : ¬ (50 : Int) < (n : Int) := by omega
    have h3 : (30 : Int) < (m : Int) := by omega
    clear h
    go_enter Try.func5, Try.ntmps5
    go_wp2_with fail
    refine (awake11 _).mono ?_
    rintro e w1 ⟨rfl, hb⟩
    have HB := Lib.hid hb
    clear hb
    go_wp2_with fail
    go_ret
    exact ⟨rfl, HB.out⟩
set_option maxHeartbeats 1000000 in
set_option maxRecDepth 100000 in
theorem turned_nobook (A B : Option Addr) (its : List It) (m c d : Nat) (day : Int) (w : World) (hr : Row w 0 A (icells its)) (h50 : ¬ 50 < its.length) (h30 : ¬ 30 < m) (hE : newE its ≠ 0) :
    Calls Try.prog 5 #[.slice A its.length c, .slice B m d, .int .i64 day] w fun e w' => e = .returned (.bool true) ∧ Below w.heap.size w w' := by
  have HN := Lib.hid (fun w1 (h : Row w1 0 A (icells its)) => new_bad A its c w1 h (by omega) _ rfl hE)
  have HR := Lib.hid hr
  obtain ⟨E, hEE⟩ : ∃ E, newE its = E := ⟨_, rfl⟩
  rw [hEE] at HN
  generalize its.length = n at *
  have h2 : ¬ (50 : Int) < (n : Int) := by omega
  have h3 : ¬ (30 : Int) < (m : Int) := by omega
  clear hE hr hEE
  go_enter Try.func5, Try.ntmps5
  go_wp2_with fail
  refine (awake11 _).mono ?_
  rintro e w1 ⟨rfl, hb⟩
  have HB := Lib.hid hb
  clear hb
  go_wp2_with fail
  refine (HN.out _ (HR.out.below HB.out)).mono ?_
  rintro e w3 ⟨rfl, hb⟩
  have HB := Lib.hid (HB.out.trans (hb.mono HB.out.size))
  clear hb
  go_wp2_with fail
  go_ret
  exact ⟨rfl, HB.out⟩
/-- What the law has of its parameters. -/
structure TP (its : List It) (ls : List Ln) (A B : Option Addr) (w : World) : Prop where
  hE : newE its = 0
  hI : ∀ x ∈ its, ItI x
  h30 : ls.length ≤ 30
  r1 : Row w 0 A (icells its)
  r2 : Row w 0 B (lcells ls)
  u : ∀ i, i < ls.length → I64 (lnAt ls i).units
theorem TP.len {its : List It} {ls : List Ln} {A B : Option Addr} {w : World} (h : TP its ls A B w) : its.length ≤ 40 := by
  have := h.hE
  unfold newE at this
  split at this
  · omega
  · omega
set_option maxHeartbeats 8000000 in
set_option maxRecDepth 100000 in
theorem turned_go (A B : Option Addr) (its : List It) (ls : List Ln) (c d : Nat) (day : Int) (w : World) (h : TP its ls A B w) :
    Calls Try.prog 5 #[.slice A its.length c, .slice B ls.length d, .int .i64 day] w fun e w' => e = .returned (.bool true) ∧ Below w.heap.size w w' := by
  have hlen := h.len
  have h30 := h.h30
  have HN := Lib.hid (fun w1 (hr : Row w1 0 A (icells its)) => new_ok A its c w1 hr h.hE)
  have HFI := Lib.hid (fun S b w1 hbk (hr : Row w1 0 B (lcells ls)) => dfind_any S its B ls d b day w1 h.hE h.hI hbk hr (by omega) h.u)
  have HFB := Lib.hid (fun S b w1 (A2 : Option Addr) (c2 : Nat) hbk (hr : Row w1 0 A2 (lcells ls.reverse)) => dfind_any S its A2 ls.reverse c2 b day w1 h.hE h.hI hbk hr (by rw [List.length_reverse]; omega) (fun i hi => by rw [List.length_reverse] at hi; rw [lnAt_rev hi]; exact h.u _ (by omega)))
  have HR1 := Lib.hid h.r1
  have HR2 := Lib.hid h.r2
  have HTF := Lib.hid (turn_facts its (rows0 its) day ls)
  rw [List.length_reverse] at HFB
  have HER := Lib.hid (findE_rev its (rows0 its) day ls)
  obtain ⟨E, hE⟩ : ∃ E, findE its (rows0 its) day ls = E := ⟨_, rfl⟩
  rw [hE] at HER
  have HEE := Lib.hid hE
  obtain ⟨X, hX⟩ : ∃ X, findL its (rows0 its) day ls = X := ⟨_, rfl⟩
  obtain ⟨Y, hY⟩ : ∃ Y, findL its (rows0 its) day ls.reverse = Y := ⟨_, rfl⟩
  rw [hX, hY] at HTF
  have HXX := Lib.hid hX
  have HYY := Lib.hid hY
  obtain ⟨n, hn⟩ : ∃ n, its.length = n := ⟨_, rfl⟩
  obtain ⟨m, hm⟩ : ∃ m, ls.length = m := ⟨_, rfl⟩
  have HM := Lib.hid hm
  have HLT := Lib.hid (fun (k j : Nat) (hkj : k + j + 1 = m) => lcells_turn (ls := ls) (k := k) (j := j) (by rw [hm]; exact hkj))
  rw [hn] at hlen HN ⊢
  rw [hm] at h30 HFI HFB HTF ⊢
  have h2 : ¬ (50 : Int) < (n : Int) := by omega
  have h3 : ¬ (30 : Int) < (m : Int) := by omega
  have hm1 : IntKind.i64.wrap ((m : Int) - 1) = (m : Int) - 1 := IntWalk.i64_in _ (by omega)
  clear h hn hm hE hX hY
  go_enter Try.func5, Try.ntmps5
  go_wp2_with fail
  refine (awake11 _).mono ?_
  rintro e w1 ⟨rfl, hb⟩
  have HB := Lib.hid hb
  clear hb
  go_wp2_with fail
  refine (HN.out _ (HR1.out.below HB.out)).mono ?_
  rintro e w3 ⟨S, b, rfl, hbk, hb, _⟩
  have HB := Lib.hid (HB.out.trans (hb.mono HB.out.size))
  have HBK := Lib.hid hbk
  clear hb hbk
  go_wp2_with fail
  go_loopw [9, 10] (fun vB vi wr => ∃ (k : Nat) (P : Option Addr) (cB : Nat), vB = .slice P k cB ∧ vi = .int .i64 ((m : Int) - 1 - (k : Int)) ∧ k ≤ m ∧ wr.ownsRow w3.heap.size 45 5 (.slice P k cB) k (lcells (ls.reverse.take k)) ∧ Below w3.heap.size w3 wr) (fun _ vi _ => (intOf vi + 1).toNat)
  case atStart => exact ⟨0, none, 0, rfl, by go_num, by omega, World.ownsRow_nil _ _ _ _, Below.refl _ _⟩
  case round =>
    obtain ⟨k, P, cB, rfl, rfl, hk, hown, hbe⟩ := hrel
    have HO := Lib.hid hown
    have HBE := Lib.hid hbe
    by_cases hlt : k < m
    · obtain ⟨j, hj⟩ : ∃ j : Nat, k + j + 1 = m := ⟨m - 1 - k, by omega⟩
      have HL := Lib.hid (HLT.out k j hj)
      have hjm : (m : Int) - 1 - (k : Int) = (j : Int) := by omega
      rw [hjm]
      obtain ⟨ad, rfl, x0, x1, x2, x3, x4⟩ := l_cells (HR2.out.below (HB.out.trans (hbe.mono HB.out.size))) (j := j) (by rw [HM.out]; omega)
      obtain ⟨x, hx⟩ : ∃ x, lnAt ls j = x := ⟨_, rfl⟩
      rw [hx] at x0 x1 x2 x3 x4 HL
      obtain ⟨t1, t2, t3, t4, t5⟩ := x
      dsimp only [Ln.cell] at x0 x1 x2 x3 x4 HL
      have j0 : (0 : Int) ≤ (j : Int) := Int.natCast_nonneg _
      have j1 : (j : Int) < (m : Int) := by omega
      have HJ := Lib.hid hj
      have hb1 : (k + 1) * 40 ≤ 140737488355328 := by omega
      have hb2 : k + 1 ≤ maxLen := by unfold maxLen; omega
      have HOA := Lib.hid (hown.alloc (.cells #[.int .i64 t1, .int .i64 t2, .int .i64 t3, .int .i64 t4, .int .i64 t5] 45))
      have HBA := Lib.hid (hbe.alloc hbe.size (.cells #[.int .i64 t1, .int .i64 t2, .int .i64 t3, .int .i64 t4, .int .i64 t5] 45))
      have HNW := Lib.hid (Blk.new wr 45 #[.int .i64 t1, .int .i64 t2, .int .i64 t3, .int .i64 t4, .int .i64 t5])
      clear hown hbe hx hj hjm HER HEE HO
      go_wp2_with (at_builtin; refine wpList_app E_line rfl (.tmp 44) (.tmp 49) rfl rfl HOA.out ⟨wr.heap.size, 0, none⟩ 1 1 [.int .i64 t1, .int .i64 t2, .int .i64 t3, .int .i64 t4, .int .i64 t5] rfl rfl (World.news_of_block HNW.out) (by simp [Value.oneCell']) hb1 hb2 (HBA.out.size) (by decide) ?_; intro g8 c8 w8 ho8 hg8 hat8; have HO8 := Lib.hid ho8; have HB8 := Lib.hid (HBA.out.grown hg8 HBA.out.size (fun q hq => (HOA.out.lt q hq).1)); clear ho8 hg8 hat8)
      have hj := HJ.out
      go_roundw
      case rel => exact ⟨k + 1, _, _, rfl, by rw [show (m : Int) - 1 - ((k + 1 : Nat) : Int) = (j : Int) - 1 by omega], by omega, by rw [HL.out]; exact HO8.out, HB8.out⟩
      case measure => simp only [intOf]; omega
    · obtain rfl : k = m := by omega
      rw [show (k : Int) - 1 - (k : Int) = -1 by omega]
      have ht : ls.reverse.take k = ls.reverse := List.take_of_length_le (by rw [List.length_reverse, HM.out]; exact Nat.le_refl _)
      rw [ht] at hown
      have HRB := Lib.hid ((Row.of_own hown (by decide)).weak (Nat.zero_le _))
      have HB3 := Lib.hid (HB.out.trans (hbe.mono HB.out.size))
      have HBK3 := Lib.hid (HBK.out.later hbe)
      clear hown hbe ht HO HBE
      obtain ⟨w5, hw5⟩ : ∃ w5 : World, w5 = wr := ⟨_, rfl⟩
      rw [← hw5] at HRB HB3 HBK3 ⊢
      clear hw5
      go_wp2_with fail
      refine (HFI.out S b w5 HBK3.out (HR2.out.below HB3.out)).mono ?_
      rintro e w6 ⟨v, xs, rfl, hd, hx, hb⟩
      have HB4 := Lib.hid (HB3.out.trans (hb.mono HB3.out.size))
      have HBK4 := Lib.hid (HBK3.out.later hb)
      have HRB4 := Lib.hid (HRB.out.below hb)
      rw [HXX.out] at hx
      rw [HEE.out]
      obtain ⟨AD, cD, rfl, _⟩ := hd.sl
      obtain ⟨N, hN⟩ : ∃ N, xs.length = N := ⟨_, rfl⟩
      have HDR := Lib.hid (hd.read rfl)
      have HXM := Lib.hid hx
      have HXN := Lib.hid hN
      rw [hN]
      clear hd hx hb hN HBK3 HRB
      go_wp2_with fail
      refine (HFB.out S b w6 P cB HBK4.out HRB4.out).mono ?_
      rintro e w7 ⟨v, ys, rfl, hd, hx, hb⟩
      have HB7 := Lib.hid (HB4.out.trans (hb.mono HB4.out.size))
      have HDR7 := Lib.hid (HDR.out.below hb)
      rw [HYY.out] at hx
      rw [HER.out]
      have hnn : ys.length = N := by
        have h1 := congrArg List.length HXM.out
        have h2 := congrArg List.length hx
        have h3 := HTF.out.len
        have h4 := HXN.out
        rw [List.length_map] at h1 h2
        omega
      have HYN := Lib.hid hnn
      obtain ⟨AY, cY, rfl, _⟩ := hd.sl
      have HDY := Lib.hid (hd.read rfl)
      have HYM := Lib.hid hx
      rw [hnn]
      have hN30 : N ≤ 30 := by have h1 := congrArg List.length HXM.out; have h3 := HTF.out.le; have h4 := HXN.out; rw [List.length_map] at h1; omega
      clear hd hx hb hnn HER HEE HBK4 HRB4 HDR
      go_wp2_with fail
      go_loopw [77] (fun v wr => ∃ t : Nat, v = .int .i64 (t : Int) ∧ t ≤ N ∧ Below w7.heap.size w7 wr) (fun v _ => N - (intOf v).toNat)
      case atStart => exact ⟨0, rfl, by omega, Below.refl _ _⟩
      case round =>
        obtain ⟨t, rfl, ht, hbt⟩ := hrel
        have HBT := Lib.hid hbt
        have t0 : (0 : Int) ≤ (t : Int) := Int.natCast_nonneg _
        by_cases hlt : t < N
        · have htx : t < xs.length := by rw [HXN.out]; exact hlt
          obtain ⟨ad, Q, cq, rfl, x0, x1, x2, x3, x4, x5, xr⟩ := (HDR7.out.below hbt).at_ htx
          have hmem : xs[t].d ∈ X := by rw [← HXM.out]; exact List.mem_map.2 ⟨_, List.getElem_mem htx, rfl⟩
          obtain ⟨f1, f2, f3, f4⟩ := HTF.out.sx _ hmem
          have f5 := HTF.out.one _ hmem
          generalize xs[t].d = D at *
          have HF5 := Lib.hid f5
          have HUP := Lib.hid (fun s => take_len_lt (s := s) (matD k D) f5)
          obtain ⟨dl, da, du, dm, df, dd⟩ := D
          dsimp only at x0 x1 x2 x3 x4 x5 xr f1 f2 f3 f4
          obtain ⟨qd, rfl, z0⟩ := int_at xr (j := 0) (by rw [nats_len]; exact f1)
          rw [add_zero_] at z0
          have z0' : (nats dl).getD 0 0 = ((dl.headD 0 : Nat) : Int) := by cases dl <;> simp [nats]
          rw [z0'] at z0
          have HMD := Lib.hid (show ∀ y : Du, matD k ⟨dl, da, du, dm, df, dd⟩ y = (decide (((k : Int) - 1) - ((dl.headD 0 : Nat) : Int) = ((y.ls.getLastD 0 : Nat) : Int)) && (decide (da = y.alone) && (decide (du = y.units) && (decide (df = y.first) && (decide (dd = y.last) && decide (dl.length = y.ls.length)))))) from fun y => rfl)
          obtain ⟨M, hM⟩ : ∃ M, matD k ⟨dl, da, du, dm, df, dd⟩ = M := ⟨_, rfl⟩
          rw [hM] at HF5 HUP HMD
          obtain ⟨L, hL⟩ : ∃ L, dl.length = L := ⟨_, rfl⟩
          obtain ⟨h0, hh0⟩ : ∃ h0, dl.headD 0 = h0 := ⟨_, rfl⟩
          rw [hL] at HMD x0 f1 f2
          rw [hh0] at HMD z0 f3
          have t1 : (t : Int) < (N : Int) := by omega
          have HQB := Lib.hid (Blk.new wr 43 #[.slice (some qd) L cq, .int .i64 da, .int .i64 du, .int .i64 dm, .int .i64 df, .int .i64 dd])
          have HBQ := Lib.hid (hbt.alloc hbt.size (.cells #[.slice (some qd) L cq, .int .i64 da, .int .i64 du, .int .i64 dm, .int .i64 df, .int .i64 dd] 43))
          have HZ0 := Lib.hid (cell_below' (alloc1 wr (.cells #[.slice (some qd) L cq, .int .i64 da, .int .i64 du, .int .i64 dm, .int .i64 df, .int .i64 dd] 43)) z0)
          clear hbt xr hmem f4 f5 z0' hM hL hh0 z0
          go_wp2_with fail
          obtain ⟨wo, hwo⟩ : ∃ wo, wr.alloc (.cells #[.slice (some qd) L cq, .int .i64 da, .int .i64 du, .int .i64 dm, .int .i64 df, .int .i64 dd] 43) = wo := ⟨_, rfl⟩
          obtain ⟨Z, hZ⟩ : ∃ Z, wr.heap.size = Z := ⟨_, rfl⟩
          rw [hwo] at HQB HBQ HZ0 ⊢
          rw [hZ] at HQB ⊢
          clear hwo hZ x0 x1 x2 x3 x4 x5 HBT
          go_loopw [17, 83] (fun vm v wx => ∃ s : Nat, vm = .int .i64 (((Y.take s).countP M : Nat) : Int) ∧ v = .int .i64 (s : Int) ∧ s ≤ N ∧ Below wo.heap.size wo wx) (fun _ v _ => N - (intOf v).toNat)
          case atStart => exact ⟨0, rfl, rfl, by omega, Below.refl _ _⟩
          case round =>
            obtain ⟨s, rfl, rfl, hs, hbs⟩ := hrel
            have HBS := Lib.hid hbs
            have s0 : (0 : Int) ≤ (s : Int) := Int.natCast_nonneg _
            by_cases hsN : s < N
            · have hsy : s < ys.length := by rw [HYN.out]; exact hsN
              have hsY : s < Y.length := by have h1 := congrArg List.length HYM.out; have h4 := HYN.out; rw [List.length_map] at h1; omega
              obtain ⟨ay, R, cr, rfl, y0, y1, y2, y3, y4, y5, yr⟩ := (HDY.out.below (HBQ.out.trans (hbs.mono HBQ.out.size))).at_ hsy
              have hyY : ys[s].d = Y[s] := by
                have h1 : (ys.map (·.d))[s]'(by simpa using hsy) = Y[s] := by simp [HYM.out]
                simpa using h1
              rw [hyY] at y0 y1 y2 y3 y4 y5 yr
              have hmem : Y[s] ∈ Y := List.getElem_mem hsY
              obtain ⟨f4, f5, f6, f7⟩ := HTF.out.sy _ hmem
              have hct := countP_take hsY M
              rw [HMD.out] at hct
              have hup := HUP.out s
              have HUP1 := Lib.hid hup
              generalize Y[s] = D at *
              obtain ⟨el, ea, eu, em, ef, ed⟩ := D
              dsimp only at y0 y1 y2 y3 y4 y5 yr f4 f5 f6 f7 hct
              obtain ⟨qe, rfl, z1⟩ := int_at yr (j := el.length - 1) (by rw [nats_len]; omega)
              have z1' : (nats el).getD (el.length - 1) 0 = ((el.getLastD 0 : Nat) : Int) := by
                rw [List.getLastD_eq_getLast?, List.getLast?_eq_getElem?]
                simp only [nats, List.getD_eq_getElem?_getD, List.getElem?_map]
                cases el[el.length - 1]? <;> rfl
              rw [z1'] at z1
              obtain ⟨L2, hL2⟩ : ∃ L2, el.length = L2 := ⟨_, rfl⟩
              obtain ⟨h1, hh1⟩ : ∃ h1, el.getLastD 0 = h1 := ⟨_, rfl⟩
              rw [hL2] at hct y0 f4 f5 z1
              rw [hh1] at hct z1 f7
              obtain ⟨C, hC⟩ : ∃ C, (Y.take s).countP M = C := ⟨_, rfl⟩
              rw [hC] at hct hup ⊢
              have HCT := Lib.hid hct
              have z0' := cell_below' hbs HZ0.out
              have qb := HQB.out.below hbs HQB.out.lt
              obtain ⟨wy, hwy⟩ : ∃ wy, wr.alloc (.cells #[.slice (some qe) L2 cr, .int .i64 ea, .int .i64 eu, .int .i64 em, .int .i64 ef, .int .i64 ed] 43) = wy := ⟨_, rfl⟩
              have HWY := Lib.hid hwy
              have hyb := Blk.new wr 43 #[.slice (some qe) L2 cr, .int .i64 ea, .int .i64 eu, .int .i64 em, .int .i64 ef, .int .i64 ed]
              have hal := alloc1 wr (.cells #[.slice (some qe) L2 cr, .int .i64 ea, .int .i64 eu, .int .i64 em, .int .i64 ef, .int .i64 ed] 43)
              rw [hwy] at hyb hal
              have v0 := cell_below' hal z0'
              have v1 := cell_below' hal z1
              have hqb := qb.below hal qb.lt
              have hzz : ¬ Z = wr.heap.size := by have := qb.lt; omega
              have hzz2 : ¬ wr.heap.size = Z := by omega
              have HBY := Lib.hid (hbs.trans (hal.mono hbs.size))
              have HSZ := Lib.hid hbs.size
              have HT1 := Lib.hid (show (qe.block = wr.heap.size → False) from fun e => by have := cell_lt z1; rw [block_add] at this; omega)
              have t1 : (s : Int) < (N : Int) := by omega
              clear hbs hup hct hmem hyY yr z1' z0' z1 qb hal f6 hwy
              go_wp2_with fail
              rw [HWY.out]
              obtain ⟨Z2, hZ2⟩ : ∃ Z2, wr.heap.size = Z2 := ⟨_, rfl⟩
              rw [hZ2] at hyb hzz hzz2 HSZ ⊢
              have q0 : wy.cell? ⟨Z, 0, none⟩ = some (.slice (some qd) L cq) := hqb.cell 0
              have p0 : wy.cell? ⟨Z2, 0, none⟩ = some (.slice (some qe) L2 cr) := hyb.cell 0
              have g1 : ¬ ((L : Int) = 0) := by omega
              have g1b : ((L : Int) == 0) = false := by simpa using g1
              have g2 : ¬ ((L2 : Int) = 0) := by omega
              have g2b : ((L2 : Int) == 0) = false := by simpa using g2
              have g3 : (0 : Int) < (L : Int) := by omega
              have g4 : ((L2 : Int) - 1).toNat = L2 - 1 := by omega
              have g5 : IntKind.i64.wrap ((L2 : Int) - 1) = (L2 : Int) - 1 := IntWalk.i64_in _ (by omega)
              have g6 : (0 : Int) ≤ (L2 : Int) - 1 := by omega
              have g7 : (L2 : Int) - 1 < (L2 : Int) := by omega
              have g8 : 1 ≤ L2 := by omega
              have g9 : (1 : Int) ≤ (L2 : Int) := by omega
              have g10 : IntKind.i64.wrap ((k : Int) - 1 - (h0 : Int)) = (k : Int) - 1 - (h0 : Int) := IntWalk.i64_in _ (by omega)
              have HHY := Lib.hid hyb
              have HHX := Lib.hid hqb
              clear hyb hqb hZ2 HWY y0 y1 y2 y3 y4 y5
              by_cases hq : (k : Int) - 1 - (h0 : Int) = (h1 : Int)
              · have hqb : (((k : Int) - 1 - (h0 : Int)) == (h1 : Int)) = true := by simpa using hq
                go_quiet (fail)
                have hct2 := HCT.out
                rw [show decide ((k : Int) - 1 - (h0 : Int) = (h1 : Int)) = true from decide_eq_true hq, Bool.true_and] at hct2
                obtain ⟨r, hr⟩ : ∃ r, (decide (da = ea) && (decide (du = eu) && (decide (df = ef) && (decide (dd = ed) && decide (L = L2))))) = r := ⟨_, rfl⟩
                rw [hr] at hct2
                have HC2 := Lib.hid hct2
                have HOL := Lib.hid (fun W => one_loose (some qd) (some qe) L L2 cq cr da du dm df dd ea eu ef ed W (by omega) r hr)
                have hx2 := HHX.out.drewN nq
                have hy2 := HHY.out.drewN nq
                have hb2 := Later.drewN HBY.out nq
                obtain ⟨wq, hwq⟩ : ∃ wq, wy.drewN nq = wq := ⟨_, rfl⟩
                rw [hwq] at hx2 hy2 hb2 ⊢
                have a0 : wq.cell? ⟨Z, 0, none⟩ = some (.slice (some qd) L cq) := hx2.cell 0
                have a1 : wq.cell? ⟨Z, 1, none⟩ = some (.int .i64 da) := hx2.cell 1
                have a2 : wq.cell? ⟨Z, 2, none⟩ = some (.int .i64 du) := hx2.cell 2
                have a3 : wq.cell? ⟨Z, 3, none⟩ = some (.int .i64 dm) := hx2.cell 3
                have a4 : wq.cell? ⟨Z, 4, none⟩ = some (.int .i64 df) := hx2.cell 4
                have a5 : wq.cell? ⟨Z, 5, none⟩ = some (.int .i64 dd) := hx2.cell 5
                have c0 : wq.cell? ⟨Z2, 0, none⟩ = some (.slice (some qe) L2 cr) := hy2.cell 0
                have c1 : wq.cell? ⟨Z2, 1, none⟩ = some (.int .i64 ea) := hy2.cell 1
                have c2 : wq.cell? ⟨Z2, 2, none⟩ = some (.int .i64 eu) := hy2.cell 2
                have c3 : wq.cell? ⟨Z2, 3, none⟩ = some (.int .i64 em) := hy2.cell 3
                have c4 : wq.cell? ⟨Z2, 4, none⟩ = some (.int .i64 ef) := hy2.cell 4
                have c5 : wq.cell? ⟨Z2, 5, none⟩ = some (.int .i64 ed) := hy2.cell 5
                have c6 := hy2.frozen 3
                have HB2 := Lib.hid (hb2.setCell (p := ⟨Z2, 3, none⟩) HSZ.out (.int .i64 dm))
                clear hq hqb hr hct2 hx2 hy2 hb2 hwq q0 p0 v0 v1
                go_wp2_with fail
                refine (HOL.out _).mono ?_
                rintro e w8 ⟨rfl, hb8⟩
                have HB8 := Lib.hid (HB2.out.trans (hb8.mono HB2.out.size))
                clear hb8
                cases r with
                | false =>
                  go_wp2_with fail
                  go_roundw
                  case rel => exact ⟨s + 1, by rw [HC2.out]; rfl, by go_num, by omega, HB8.out⟩
                  case measure => simp only [intOf]; omega
                | true =>
                  have hc1 := HUP1.out
                  go_wp2_with fail
                  go_roundw
                  case rel => exact ⟨s + 1, by rw [HC2.out]; go_num, by go_num, by omega, HB8.out⟩
                  case measure => simp only [intOf]; omega
              · have hqb : (((k : Int) - 1 - (h0 : Int)) == (h1 : Int)) = false := by simpa using hq
                have hqc : (((k : Int) - 1 - (h0 : Int)) != (h1 : Int)) = true := by simpa using hq
                have HC2 := Lib.hid (show (Y.take (s + 1)).countP M = C by rw [HCT.out, show decide ((k : Int) - 1 - (h0 : Int) = (h1 : Int)) = false from decide_eq_false hq, Bool.false_and]; rfl)
                go_quiet (fail)
                have HB2 := Lib.hid (Later.drewN HBY.out nq)
                go_wp2_with fail
                go_roundw
                case rel => exact ⟨s + 1, by rw [HC2.out], by go_num, by omega, HB2.out⟩
                case measure => simp only [intOf]; omega
            · obtain rfl : s = N := by omega
              have hY : Y.take s = Y := List.take_of_length_le (by have h1 := congrArg List.length HYM.out; have h4 := HYN.out; rw [List.length_map] at h1; omega)
              rw [hY, HF5.out]
              have HBS2 := Lib.hid (HBQ.out.trans (hbs.mono HBQ.out.size))
              clear hbs hY
              go_wp2_with fail
              go_roundw
              case rel => exact ⟨t + 1, by go_num, by omega, HBS2.out⟩
              case measure => simp only [intOf]; omega
        · obtain rfl : t = N := by omega
          go_wp2_with fail
          go_ret
          exact ⟨rfl, HB7.out.trans (HBT.out.mono HB7.out.size)⟩
theorem turned_walk (A : Option Addr) (its : List It) (c : Nat) (B : Option Addr) (ls : List Ln) (d : Nat) (day : Int) (w : World) (hI : ∀ x ∈ its, ItI x) (hr : Row w 0 A (icells its)) (hs1 : its.length * 32 ≤ 140737488351232) (hlI : ∀ x ∈ ls, LnI x) (hrl : Row w 0 B (lcells ls)) (hs2 : ls.length * 40 ≤ 140737488351232) (hday : I64 day) :
    Calls Try.prog 5 #[.slice A its.length c, .slice B ls.length d, .int .i64 day] w fun e w' => e = .returned (.bool true) ∧ Below w.heap.size w w' := by
  by_cases h50 : 50 < its.length
  · exact turned_large A B _ _ c d day w (.inl h50)
  · by_cases h30 : 30 < ls.length
    · exact turned_large A B _ _ c d day w (.inr h30)
    · by_cases hE : newE its = 0
      · exact turned_go A B its ls c d day w ⟨hE, hI, by omega, hr, hrl, fun i hi => (hlI _ (lnAt_mem hi)).2.1⟩
      · exact turned_nobook A B its ls.length c d day w hr h50 h30 hE
end Go.Proofs.Ytbdhbongaikphaa.BK
