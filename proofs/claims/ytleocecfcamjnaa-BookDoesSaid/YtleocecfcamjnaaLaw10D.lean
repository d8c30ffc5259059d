/- The walk of the law BookDoes. -/
import Derived.Test.YtleocecfcamjnaaBookT
import Derived.Deep.DeepCutAuto
import Derived.Deep.QuietTactic
import Derived.BigQuiet
namespace Go.Proofs.Ytleocecfcamjnaa.BK
open Go.RowKit Go.Proofs.Ytleocecfcamjnaa.Cents
set_option linter.unusedVariables false
set_option linter.unusedSimpArgs false

/-- A world of a class; a letter for it. -/
structure CW (p : World → Prop) where
  w : World
  h : p w
theorem cw_call {P : Program} {f : FuncId} {args : Array Value} {v : Value} {p : World → Prop} {wz : World} (c : CW (fun W => p W ∧ Below wz.heap.size wz W)) (h : Calls P f args c.w fun e w' => e = .returned v ∧ p w' ∧ Below c.w.heap.size c.w w') :
    Calls P f args c.w fun e w' => e = .returned v ∧ ∃ c' : CW (fun W => p W ∧ Below wz.heap.size wz W), w' = c'.w :=
  h.mono fun _ w' ⟨h1, h2, h3⟩ => ⟨h1, ⟨w', h2, c.h.2.trans (h3.mono c.h.2.size)⟩, rfl⟩
theorem wp_region_quietC {P : Program} {C : World → Prop} {id : Nat} {Q : Exit → Act → World → Prop} {a : Act} {w : World} {l : List Oper} (hm : P.follows .mixedOrders = true) (hB : Region.lexB .any l.toArray = true) (hC : C { w with drawn := w.drawn + 1 })
    (h : wpQuiet P l.toArray C (fun a' => ∀ w', C w' → Q .normal a' w') l a) : (Code.region id l.toArray true).wp P Q a w :=
  wp_region_quiet hm hB hC (by simpa using h)
def LnI (x : Ln) : Prop := I64 x.item ∧ I64 x.units ∧ I64 x.charge ∧ I64 x.first ∧ I64 x.last
set_option maxRecDepth 100000 in
theorem does_large (A B C : Option Addr) (n m k c d f : Nat) (i dd : Int) (w : World) (h : largeI n m = true ∨ 30 < k) :
    Calls Try.prog 3 #[.slice A n c, .slice B m d, .int .i64 i, .int .i64 dd, .slice C k f] w fun e w' => e = .returned (.bool true) ∧ Below w.heap.size w w' := by
  cases hl : largeI n m with
  | true =>
    have HL := Lib.hid (fun w => large_any A B n m c d w true hl)
    clear h hl
    go_enter Try.func3, Try.ntmps3
    go_wp2_with fail
    refine (awake_any _).mono ?_
    rintro e w1 ⟨rfl, hb⟩
    have HB := Lib.hid hb
    clear hb
    go_wp2_with fail
    refine (HL.out _).mono ?_
    rintro e w2 ⟨rfl, rfl⟩
    go_wp2_with fail
    go_ret
    exact ⟨rfl, HB.out⟩
  | false =>
    have HL := Lib.hid (fun w => large_any A B n m c d w false hl)
    have hk : decide ((30 : Int) < (k : Int)) = true := by
      rcases h with h | h
      · rw [hl] at h; cases h
      · simp; omega
    clear h hl
    go_enter Try.func3, Try.ntmps3
    go_wp2_with fail
    refine (awake_any _).mono ?_
    rintro e w1 ⟨rfl, hb⟩
    have HB := Lib.hid hb
    clear hb
    go_wp2_with fail
    refine (HL.out _).mono ?_
    rintro e w2 ⟨rfl, rfl⟩
    go_wp2_with fail
    go_ret
    exact ⟨rfl, HB.out⟩
set_option maxRecDepth 100000 in
theorem does_bad (A B C : Option Addr) (its : List It) (m k c d f : Nat) (i dd : Int) (w : World) (hr : Row w 0 A (icells its)) (h : largeI its.length m = false) (hk : ¬ 30 < k) (hE : newE its ≠ 0) :
    Calls Try.prog 3 #[.slice A its.length c, .slice B m d, .int .i64 i, .int .i64 dd, .slice C k f] w fun e w' => e = .returned (.bool true) ∧ Below w.heap.size w w' := by
  have HL := Lib.hid (fun w => large_any A B its.length m c d w false h)
  have hlen : its.length ≤ 1000000 := by unfold largeI at h; simp at h; omega
  have HN := Lib.hid (fun w1 (h : Row w1 0 A (icells its)) => new_bad A its c w1 h hlen _ rfl hE)
  have HRN := Lib.hid (fun w1 (h : Row w1 0 A (icells its)) => rnew_any A its c w1 h hlen)
  have HR := Lib.hid hr
  have HE := Lib.hid hE
  obtain ⟨E, hEE⟩ : ∃ E, newE its = E := ⟨_, rfl⟩
  have HEE := Lib.hid hEE
  rw [hEE] at HN
  generalize its.length = n at *
  have hk2 : decide ((30 : Int) < (k : Int)) = false := by simp; omega
  clear h hE hr hk hEE
  go_enter Try.func3, Try.ntmps3
  go_wp2_with fail
  refine (awake_any _).mono ?_
  rintro e w1 ⟨rfl, hb⟩
  have HB := Lib.hid hb
  clear hb
  go_wp2_with fail
  refine (HL.out _).mono ?_
  rintro e w2 ⟨rfl, rfl⟩
  go_wp2_with fail
  refine (HN.out _ (HR.out.below HB.out)).mono ?_
  rintro e w3 ⟨rfl, hb⟩
  have HB := Lib.hid (below_in HB.out hb)
  clear hb
  go_wp2_with fail
  refine (HRN.out _ (HR.out.below HB.out)).mono ?_
  rintro e w4 hres
  rcases hres with ⟨h0, _⟩ | ⟨_, rfl, hb⟩
  · exact absurd h0 HE.out
  have HB := Lib.hid (below_in HB.out hb)
  rw [HEE.out]
  clear hb
  go_wp2_with fail
  go_ret
  exact ⟨rfl, HB.out⟩
set_option maxHeartbeats 4000000 in
set_option maxRecDepth 100000 in
theorem does_ok (A B C : Option Addr) (its : List It) (l : List Pz) (ls : List Ln) (c d f : Nat) (i dd : Int) (w : World) (hr : Row w 0 A (icells its)) (hI : ∀ x ∈ its, ItI x) (hrl : Row w 0 B (zcells l)) (hlI : ∀ p ∈ l, p.I) (hrn : Row w 0 C (lcells ls)) (hnI : ∀ x ∈ ls, LnI x)
    (h : largeI its.length l.length = false) (h30 : ¬ 30 < ls.length) (hE : newE its = 0) :
    Calls Try.prog 3 #[.slice A its.length c, .slice B l.length d, .int .i64 i, .int .i64 dd, .slice C ls.length f] w fun e w' => e = .returned (.bool true) ∧ Below w.heap.size w w' := by
  have HL := Lib.hid (fun w => large_any A B its.length l.length c d w false h)
  have hlen : l.length ≤ 130 := by unfold largeI at h; simp at h; omega
  have hlen2 : its.length ≤ 1000000 := by unfold largeI at h; simp at h; omega
  have HN := Lib.hid (fun w1 (h : Row w1 0 A (icells its)) => new_ok A its c w1 h hE)
  have HRN := Lib.hid (fun w1 (h : Row w1 0 A (icells its)) => rnew_any A its c w1 h hlen2)
  have HMT := Lib.hid (fun k => rsets_ok hI hE (l.take k) (fun p hp => (hlI p (List.mem_of_mem_take hp)).2.2))
  have HOK := Lib.hid (fun k => sets_BkOk (new_BkOk hE hI) (l.take k) (fun p hp => (hlI p (List.mem_of_mem_take hp)).2.2))
  have HR := Lib.hid hr
  have HRL := Lib.hid hrl
  have HRN2 := Lib.hid hrn
  have HLI := Lib.hid hlI
  have HNI := Lib.hid hnI
  have HE := Lib.hid hE
  obtain ⟨n, hn⟩ : ∃ n, its.length = n := ⟨_, rfl⟩
  obtain ⟨m, hm⟩ : ∃ m, l.length = m := ⟨_, rfl⟩
  obtain ⟨q, hq⟩ : ∃ q, ls.length = q := ⟨_, rfl⟩
  have HNN := Lib.hid hn
  have HMM := Lib.hid hm
  have HQQ := Lib.hid hq
  rw [hn, hm] at HL
  rw [hn] at HN HRN HMT
  rw [hm] at hlen
  rw [hq] at h30
  rw [hn, hm, hq]
  have hk2 : decide ((30 : Int) < (q : Int)) = false := by simp; omega
  clear h hr hI hrl hlI hrn hnI hE hn hm hq hlen2
  go_enter Try.func3, Try.ntmps3
  go_wp2_with fail
  refine (awake_any _).mono ?_
  rintro e w1 ⟨rfl, hb⟩
  have HB := Lib.hid hb
  clear hb
  go_wp2_with fail
  refine (HL.out _).mono ?_
  rintro e w2 ⟨rfl, rfl⟩
  go_wp2_with fail
  refine (HN.out _ (HR.out.below HB.out)).mono ?_
  rintro e w2 ⟨S, b, rfl, hbk, hb, hS⟩
  have HB2 := Lib.hid hb
  have HBK := Lib.hid hbk
  have HS := Lib.hid hS
  clear hb hbk hS
  go_wp2_with fail
  refine (HRN.out _ ((HR.out.below HB.out).below HB2.out)).mono ?_
  rintro e w3 hres
  rcases hres with ⟨_, T, r, rfl, hrb, hb, hT⟩ | ⟨h0, _⟩
  case inr => exact absurd HE.out h0
  have htwo : Two (fun _ => False) w1 b r its (rows0 its) [] w3 := by
    have hsl : ∀ k, S k → k < w2.heap.size := by obtain ⟨_, _, _, _, z⟩ := HBK.out; exact z.lt
    have htl : ∀ k, T k → k < w3.heap.size := by obtain ⟨_, _, _, _, z⟩ := hrb; exact z.lt
    exact ⟨⟨S, T, HBK.out.later hb, hrb, fun k hk => ⟨HS.out k hk, Nat.lt_of_lt_of_le (hsl k hk) hb.size, id⟩, fun k hk => ⟨Nat.le_trans HB2.out.size (hT k hk), htl k hk, id⟩, fun k h1 h2 => by have := hsl k h1; have := hT k h2; omega⟩, below_in HB2.out hb, fun _ h => h.elim⟩
  have HTW := Lib.hid htwo
  clear htwo hrb hb hT HBK HS HB2 HN HRN HL
  go_wp2_with fail
  go_loopw [67] (fun v wr => ∃ (k : Nat), v = .int .i64 (k : Int) ∧ k ≤ m ∧ Two (fun _ => False) w1 b r its (sets its (rows0 its) (l.take k)) (rsets n (l.take k)) wr) (fun v _ => m - (intOf v).toNat)
  case atStart => exact ⟨0, rfl, by omega, HTW.out⟩
  case round =>
    clear HTW
    obtain ⟨k, rfl, hk, ht⟩ := hrel
    have HT := Lib.hid ht
    clear ht
    have g0 : (0 : Int) ≤ (k : Int) := Int.natCast_nonneg _
    by_cases hkm : k < m
    · have g1 : (k : Int) < (m : Int) := by omega
      obtain ⟨ad, rfl, c0, c1, c2⟩ := z_cells ((HRL.out.below HB.out).below HT.out.be) (j := k) (by rw [HMM.out]; exact hkm)
      have hst := sets_take (its := its) (R := rows0 its) (l := l) (k := k) (by rw [HMM.out]; exact hkm)
      have hrs := rsets_take (n := n) (l := l) (k := k) (by rw [HMM.out]; exact hkm)
      have hpi := HLI.out _ (pzAt_mem (xs := l) (j := k) (by rw [HMM.out]; exact hkm))
      obtain ⟨p, hp⟩ : ∃ p, pzAt l k = p := ⟨_, rfl⟩
      rw [hp] at c0 c1 c2 hst hrs hpi
      obtain ⟨p1, p2, p3⟩ := p
      dsimp only at c0 c1 c2 hst hrs
      have hmt := HMT.out k
      have hok := HOK.out k
      have hmt2 := HMT.out (k + 1)
      have hok2 := HOK.out (k + 1)
      rw [hst] at hok2 hmt2
      rw [hrs] at hmt2
      obtain ⟨R, hR⟩ : ∃ R, sets its (rows0 its) (l.take k) = R := ⟨_, rfl⟩
      obtain ⟨L, hL⟩ : ∃ L, rsets n (l.take k) = L := ⟨_, rfl⟩
      rw [hR] at hst hmt hok hok2 hmt2 HT
      rw [hL] at hrs hmt hmt2 HT
      obtain ⟨R2, hR2⟩ : ∃ R2, setR its R p1 p2 p3 = R2 := ⟨_, rfl⟩
      obtain ⟨L2, hL2⟩ : ∃ L2, rsetL n L p1 p2 p3 = L2 := ⟨_, rfl⟩
      obtain ⟨x, hx⟩ : ∃ x, setE its R p1 p2 p3 = x := ⟨_, rfl⟩
      have hxr : rsetE n L p1 p2 p3 = x := by rw [← hx, ← hmt.1.setE, HNN.out]
      rw [hR2] at hst hok2 hmt2
      rw [hL2] at hrs hmt2
      have hll : L.length ≤ 1000 := by have := hmt.2; rw [List.length_take] at this; omega
      have hll2 : L2.length ≤ 1000 := by have := hmt2.2; rw [List.length_take] at this; omega
      have HST := Lib.hid hst
      have HRS := Lib.hid hrs
      have HSB := Lib.hid (fun (X : Nat → Prop) w' (h : Two X w1 b r its R L w') => h.setB hok p1 p2 p3 x ⟨hx, hR2⟩)
      have HSR := Lib.hid (fun (X : Nat → Prop) w' (h : Two X w1 b r its R2 L w') => h.setR (L' := L2) hll p1 p2 p3 x ⟨by rw [HNN.out]; exact hxr, by rw [HNN.out]; exact hL2⟩)
      obtain ⟨z, hz⟩ : ∃ z, priceN its R2 p1 dd = z := ⟨_, rfl⟩
      obtain ⟨y, hy⟩ : ∃ y, priceE its.length p1 dd = y := ⟨_, rfl⟩
      have HPB := Lib.hid (fun (X : Nat → Prop) w' (h : Two X w1 b r its R2 L2 w') => h.call (h.bk.elim fun _ hb => price_any hb hok2 p1 dd z y ⟨hz, hy⟩))
      have HPR := Lib.hid (fun (X : Nat → Prop) w' (h : Two X w1 b r its R2 L2 w') => h.call (h.rb.elim fun _ hb => rprice_any hb hll2 hok2.len p1 dd z y ⟨(hmt2.1.price p1 dd).trans hz, hy⟩))
      have HTB := Lib.hid (HT.out.box (.cells #[.int .i64 p1, .int .i64 p2, .int .i64 p3] 35))
      have HBX := Lib.hid (Blk.new wr 35 #[.int .i64 p1, .int .i64 p2, .int .i64 p3])
      clear hp hst hrs hpi hmt hok hmt2 hok2 hR hL hR2 hL2 hx hxr hll hll2 hz hy HT
      go_wp2_with fail
      obtain ⟨wz, hwz⟩ : ∃ wz, wr.alloc (Obj.cells #[.int .i64 p1, .int .i64 p2, .int .i64 p3] 35) = wz := ⟨_, rfl⟩
      rw [hwz] at HTB HBX ⊢
      have k0 : wz.cell? ⟨wr.heap.size, 0, none⟩ = some (.int .i64 p1) := HBX.out.cell 0
      have k1 : wz.cell? ⟨wr.heap.size, 1, none⟩ = some (.int .i64 p2) := HBX.out.cell 1
      have k2 : wz.cell? ⟨wr.heap.size, 2, none⟩ = some (.int .i64 p3) := HBX.out.cell 2
      clear hwz c0 c1 c2
      have HTD := Lib.hid (HTB.out.later (Below.drew (Below.refl _ _)))
      go_region_held3 (fun W => W.cell? ⟨wr.heap.size, 0, none⟩ = some (.int .i64 p1) ∧ W.cell? ⟨wr.heap.size, 1, none⟩ = some (.int .i64 p2) ∧ W.cell? ⟨wr.heap.size, 2, none⟩ = some (.int .i64 p3))
        (first | exact ⟨k0, k1, k2⟩ | (go_split_ands; exact ⟨k0, k1, k2⟩))
        (first
          | (go_at_call 10; refine (HSB.out _ _ HTD.out).mono ?_; rintro e w4 ⟨rfl, ht, hx⟩; have HT4 := Lib.hid ht; have HBX4 := Lib.hid (show Blk w4 wr.heap.size 35 #[.int .i64 p1, .int .i64 p2, .int .i64 p3] from (hx _ rfl).trans HBX.out); have k0 : w4.cell? ⟨wr.heap.size, 0, none⟩ = some (.int .i64 p1) := HBX4.out.cell 0; have k1 : w4.cell? ⟨wr.heap.size, 1, none⟩ = some (.int .i64 p2) := HBX4.out.cell 1; have k2 : w4.cell? ⟨wr.heap.size, 2, none⟩ = some (.int .i64 p3) := HBX4.out.cell 2; clear ht hx)
          | (go_at_call 11; refine (HSR.out _ _ HT4.out).mono ?_; rintro e w5 ⟨rfl, ht, hx⟩; have HT5 := Lib.hid ht; have HBX5 := Lib.hid (show Blk w5 wr.heap.size 35 #[.int .i64 p1, .int .i64 p2, .int .i64 p3] from (hx _ rfl).trans HBX4.out); have k0 : w5.cell? ⟨wr.heap.size, 0, none⟩ = some (.int .i64 p1) := HBX5.out.cell 0; have k1 : w5.cell? ⟨wr.heap.size, 1, none⟩ = some (.int .i64 p2) := HBX5.out.cell 1; have k2 : w5.cell? ⟨wr.heap.size, 2, none⟩ = some (.int .i64 p3) := HBX5.out.cell 2; clear ht hx))
      all_goals
        go_wp2_with fail
        refine (HPB.out _ _ HT5.out).mono ?_
        rintro e w6 ⟨rfl, ht, hb⟩
        have HT6 := Lib.hid ht
        have HBX6 := Lib.hid (HBX5.out.below hb HBX5.out.lt)
        have j0 : w6.cell? ⟨wr.heap.size, 0, none⟩ = some (.int .i64 p1) := HBX6.out.cell 0
        clear ht hb
        go_wp2_with fail
        refine (HPR.out _ _ HT6.out).mono ?_
        rintro e w7 ⟨rfl, ht, hb⟩
        have HT7 := Lib.hid ht.drop
        clear ht hb
        go_wp2_with fail
        go_roundw
        case rel => exact ⟨k + 1, by go_num, by omega, by rw [HST.out, HRS.out]; exact HT7.out⟩
        case measure => simp only [intOf]; omega
    · obtain rfl : k = m := by omega
      have htk : l.take k = l := List.take_of_length_le (by rw [HMM.out]; exact Nat.le_refl _)
      have hmt := HMT.out k
      have hok := HOK.out k
      rw [htk] at hmt hok HT
      obtain ⟨R, hR⟩ : ∃ R, sets its (rows0 its) l = R := ⟨_, rfl⟩
      obtain ⟨L, hL⟩ : ∃ L, rsets n l = L := ⟨_, rfl⟩
      rw [hR] at hmt hok HT
      rw [hL] at hmt HT
      have hll : L.length ≤ 1000 := by have := hmt.2; rw [HMM.out] at this; omega
      obtain ⟨z, hz⟩ : ∃ z, priceN its R i dd = z := ⟨_, rfl⟩
      obtain ⟨y, hy⟩ : ∃ y, priceE its.length i dd = y := ⟨_, rfl⟩
      have HPB := Lib.hid (fun (X : Nat → Prop) w' (h : Two X w1 b r its R L w') => h.call (h.bk.elim fun _ hb => price_any hb hok i dd z y ⟨hz, hy⟩))
      have HPR := Lib.hid (fun (X : Nat → Prop) w' (h : Two X w1 b r its R L w') => h.call (h.rb.elim fun _ hb => rprice_any hb hll hok.len i dd z y ⟨(hmt.1.price i dd).trans hz, hy⟩))
      obtain ⟨it, hit⟩ : ∃ it, itN its i = it := ⟨_, rfl⟩
      obtain ⟨is, his⟩ : ∃ is, inI its.length i = is := ⟨_, rfl⟩
      have HIT := Lib.hid (fun (X : Nat → Prop) w' (h : Two X w1 b r its R L w') => h.call (h.bk.elim fun _ hb => item_any hb (by have := hok.len; omega) i it is ⟨hit, his⟩))
      obtain ⟨x, hx⟩ : ∃ x, checkE its.length ls = x := ⟨_, rfl⟩
      have HRW := Lib.hid (fun (X : Nat → Prop) w' (h : Two X w1 b r its R L w') => show Row w' 0 C (lcells ls) from (HRN2.out.below HB.out).below h.be)
      have HCB := Lib.hid (fun (X : Nat → Prop) w' (h : Two X w1 b r its R L w') => h.call (h.bk.elim fun _ hb => check_any hb C ls f (HRW.out _ _ h) (by rw [HQQ.out]; omega) x hx))
      have HCR := Lib.hid (fun (X : Nat → Prop) w' (h : Two X w1 b r its R L w') => h.call (h.rb.elim fun _ hb => rcheck_any hb C ls f (HRW.out _ _ h) (by rw [HQQ.out]; omega) x hx))
      rw [HQQ.out] at HCB HCR
      have HAB := Lib.hid (fun (X : Nat → Prop) w' (h : Two X w1 b r its R L w') (v : Ln) (hv : LnI v) => h.call (h.bk.elim fun _ hb => alone_any hb hok v hv.2.1 dd _ _ ⟨rfl, rfl⟩))
      have HAR := Lib.hid (fun (X : Nat → Prop) w' (h : Two X w1 b r its R L w') (v : Ln) (hv : LnI v) => h.call (h.rb.elim fun _ hb => ralone_any hb hmt.1 hok hll v hv.2.1 dd _ _ ⟨rfl, rfl⟩))
      have HIN := Lib.hid his
      have HITN := Lib.hid hit
      clear hmt hok hR hL hll hz hy hit his hx htk HMT HOK
      go_wp2_with fail
      refine (HPB.out _ _ HT.out).mono ?_
      rintro e w4 ⟨rfl, ht, _⟩
      have HT4 := Lib.hid ht
      clear ht
      go_wp2_with fail
      refine (HPR.out _ _ HT4.out).mono ?_
      rintro e w5 ⟨rfl, ht, _⟩
      have HT5 := Lib.hid ht
      clear ht
      go_wp2_with fail
      refine (HIT.out _ _ HT5.out).mono ?_
      rintro e w6 ⟨rfl, ht, _⟩
      have HT6 := Lib.hid ht
      clear ht HPB HPR HIT HT HT4 HT5
      obtain ⟨v1, v2, v3, v4⟩ := it
      dsimp only [It.val]
      have HT7 := Lib.hid (HT6.out.later (alloc1 w6 (.cells #[.int .i64 v1, .int .i64 v2, .int .i64 v3, .int .i64 v4] 40)))
      have HBX := Lib.hid (Blk.new w6 40 #[.int .i64 v1, .int .i64 v2, .int .i64 v3, .int .i64 v4])
      go_upto_region 24 with fail
      obtain ⟨wz, hwz⟩ : ∃ wz, w6.alloc (Obj.cells #[.int .i64 v1, .int .i64 v2, .int .i64 v3, .int .i64 v4] 40) = wz := ⟨_, rfl⟩
      obtain ⟨Q, hQ⟩ : ∃ Q, w6.heap.size = Q := ⟨_, rfl⟩
      rw [hwz] at HT7 HBX ⊢
      rw [hQ] at HBX ⊢
      clear hwz hQ HT6
      have q0 : wz.cell? ⟨Q, 0, none⟩ = some (.int .i64 v1) := HBX.out.cell 0
      have q1 : wz.cell? ⟨Q, 1, none⟩ = some (.int .i64 v2) := HBX.out.cell 1
      have q2 : wz.cell? ⟨Q, 2, none⟩ = some (.int .i64 v3) := HBX.out.cell 2
      have q3 : wz.cell? ⟨Q, 3, none⟩ = some (.int .i64 v4) := HBX.out.cell 3
      have HTD := Lib.hid (HT7.out.later (Below.drew (Below.refl _ _)))
      go_cut [181] (fun v wx => v = .bool false ∧ Two (fun _ => False) w1 b r its R L wx)
      case first =>
        have hin := HIN.out
        have hitn := HITN.out
        unfold itN at hitn
        rw [hin] at hitn
        rw [HNN.out] at hin
        unfold inI at hin
        have HQB := Lib.hid (fun (c : CW (fun W => Two (fun _ => False) w1 b r its R L W ∧ Below wz.heap.size wz W)) => cw_call c (HCB.out _ _ c.h.1))
        have HQR := Lib.hid (fun (c : CW (fun W => Two (fun _ => False) w1 b r its R L W ∧ Below wz.heap.size wz W)) => cw_call c (HCR.out _ _ c.h.1))
        have q0 : ∀ c : CW (fun W => Two (fun _ => False) w1 b r its R L W ∧ Below wz.heap.size wz W), c.w.cell? ⟨Q, 0, none⟩ = some (.int .i64 v1) := fun c => cell_below' c.h.2 q0
        have q1 : ∀ c : CW (fun W => Two (fun _ => False) w1 b r its R L W ∧ Below wz.heap.size wz W), c.w.cell? ⟨Q, 1, none⟩ = some (.int .i64 v2) := fun c => cell_below' c.h.2 q1
        have q2 : ∀ c : CW (fun W => Two (fun _ => False) w1 b r its R L W ∧ Below wz.heap.size wz W), c.w.cell? ⟨Q, 2, none⟩ = some (.int .i64 v3) := fun c => cell_below' c.h.2 q2
        have q3 : ∀ c : CW (fun W => Two (fun _ => False) w1 b r its R L W ∧ Below wz.heap.size wz W), c.w.cell? ⟨Q, 3, none⟩ = some (.int .i64 v4) := fun c => cell_below' c.h.2 q3
        have hst : (fun W => Two (fun _ => False) w1 b r its R L W ∧ Below wz.heap.size wz W) { wz with drawn := wz.drawn + 1 } := ⟨HTD.out, Below.drew (Below.refl _ wz)⟩
        haveI hne : Nonempty (CW (fun W => Two (fun _ => False) w1 b r its R L W ∧ Below wz.heap.size wz W)) := ⟨⟨_, hst⟩⟩
        by_cases e0 : i < 0
        · rw [decide_eq_false (show ¬ 0 ≤ i by omega), Bool.false_and] at hin
          subst hin
          rw [if_neg (by simp)] at hitn
          cases hitn
          have e1 : ¬ 0 ≤ i := by omega
          have e2 : decide (0 ≤ i) = false := by simp; omega
          refine wp_region_quietC (C := fun w' => ∃ c : CW (fun W => Two (fun _ => False) w1 b r its R L W ∧ Below wz.heap.size wz W), w' = c.w) (by kernel_rfl) (by kernel_rfl) ⟨⟨_, hst⟩, rfl⟩ ?_
          repeat (go_big_quiet_step ((first | (go_at_call 15; exact HQB.out _) | (go_at_call 16; exact HQR.out _))))
          refine wpQuiet_nil ?_
          intro _ hw'
          obtain ⟨cw, hw''⟩ := hw'
          subst hw''
          go_wp2_with fail
          go_meet
          case rel => exact ⟨rfl, cw.h.1⟩
        · rw [decide_eq_true (show 0 ≤ i by omega), Bool.true_and] at hin
          by_cases e1 : i < (n : Int)
          · rw [decide_eq_true e1] at hin
            subst hin
            rw [if_pos rfl] at hitn
            obtain ⟨j, rfl⟩ := Int.eq_ofNat_of_zero_le (show 0 ≤ i by omega)
            rw [Int.toNat_natCast] at hitn
            have hjn : j < n := by omega
            obtain ⟨ad, rfl, i0, i1, i2, i3⟩ := i_cells ((HR.out.below HB.out).below HT7.out.be) (j := j) (by rw [HNN.out]; exact hjn)
            rw [hitn] at i0 i1 i2 i3
            dsimp only at i0 i1 i2 i3
            have i0 : ∀ c : CW (fun W => Two (fun _ => False) w1 b r its R L W ∧ Below wz.heap.size wz W), c.w.cell? (ad.add (j * 4)) = some (.int .i64 v1) := fun c => cell_below' c.h.2 i0
            have i1 : ∀ c : CW (fun W => Two (fun _ => False) w1 b r its R L W ∧ Below wz.heap.size wz W), c.w.cell? ⟨(ad.add (j * 4)).block, (ad.add (j * 4)).off + 1, none⟩ = some (.int .i64 v2) := fun c => cell_below' c.h.2 i1
            have i2 : ∀ c : CW (fun W => Two (fun _ => False) w1 b r its R L W ∧ Below wz.heap.size wz W), c.w.cell? ⟨(ad.add (j * 4)).block, (ad.add (j * 4)).off + 2, none⟩ = some (.int .i64 v3) := fun c => cell_below' c.h.2 i2
            have i3 : ∀ c : CW (fun W => Two (fun _ => False) w1 b r its R L W ∧ Below wz.heap.size wz W), c.w.cell? ⟨(ad.add (j * 4)).block, (ad.add (j * 4)).off + 3, none⟩ = some (.int .i64 v4) := fun c => cell_below' c.h.2 i3
            have f0 : (0 : Int) ≤ (j : Int) := Int.natCast_nonneg _
            have a1 : (v1 == v1) = true := by simp
            have a2 : (v2 == v2) = true := by simp
            have a3 : (v3 == v3) = true := by simp
            have a4 : (v4 == v4) = true := by simp
            clear hitn e0
            refine wp_region_quietC (C := fun w' => ∃ c : CW (fun W => Two (fun _ => False) w1 b r its R L W ∧ Below wz.heap.size wz W), w' = c.w) (by kernel_rfl) (by kernel_rfl) ⟨⟨_, hst⟩, rfl⟩ ?_
            repeat (go_big_quiet_step ((first | (go_at_call 15; exact HQB.out _) | (go_at_call 16; exact HQR.out _))))
            refine wpQuiet_nil ?_
            intro _ hw'
            obtain ⟨cw, hw''⟩ := hw'
            subst hw''
            go_wp2_with fail
            go_meet
            case rel => exact ⟨rfl, cw.h.1⟩
          · rw [decide_eq_false e1] at hin
            subst hin
            rw [if_neg (by simp)] at hitn
            cases hitn
            have e2 : decide (0 ≤ i) = true := by simp; omega
            have e3 : decide (i < (n : Int)) = false := by simp; omega
            refine wp_region_quietC (C := fun w' => ∃ c : CW (fun W => Two (fun _ => False) w1 b r its R L W ∧ Below wz.heap.size wz W), w' = c.w) (by kernel_rfl) (by kernel_rfl) ⟨⟨_, hst⟩, rfl⟩ ?_
            repeat (go_big_quiet_step ((first | (go_at_call 15; exact HQB.out _) | (go_at_call 16; exact HQR.out _))))
            refine wpQuiet_nil ?_
            intro _ hw'
            obtain ⟨cw, hw''⟩ := hw'
            subst hw''
            go_wp2_with fail
            go_meet
            case rel => exact ⟨rfl, cw.h.1⟩
      case rest =>
        obtain ⟨hv, ht⟩ := hcut
        subst hv
        have HT := Lib.hid ht
        clear ht q0 q1 q2 q3 HTD HT7 HBX HCB HCR
        obtain ⟨wo, hwo⟩ : ∃ wo : World, wo = wc := ⟨_, rfl⟩
        rw [← hwo] at HT ⊢
        clear hwo
        go_wp2_with fail
        go_loopw [184] (fun v wr => ∃ (j : Nat), v = .int .i64 (j : Int) ∧ j ≤ q ∧ Two (fun _ => False) w1 b r its R L wr) (fun v _ => q - (intOf v).toNat)
        case atStart => exact ⟨0, rfl, by omega, HT.out⟩
        case round =>
          clear HT
          obtain ⟨j, rfl, hj, ht⟩ := hrel
          have HT := Lib.hid ht
          clear ht
          have g2 : (0 : Int) ≤ (j : Int) := Int.natCast_nonneg _
          by_cases hjq : j < q
          · have g3 : (j : Int) < (q : Int) := by omega
            obtain ⟨ad, rfl, c0, c1, c2, c3, c4⟩ := l_cells (HRW.out _ _ HT.out) (j := j) (by rw [HQQ.out]; exact hjq)
            have hvi := HNI.out _ (lnAt_mem (xs := ls) (j := j) (by rw [HQQ.out]; exact hjq))
            obtain ⟨v, hv⟩ : ∃ v, lnAt ls j = v := ⟨_, rfl⟩
            rw [hv] at c0 c1 c2 c3 c4 hvi
            have HA1 := Lib.hid (fun X w' h => HAB.out X w' h v hvi)
            have HA2 := Lib.hid (fun X w' h => HAR.out X w' h v hvi)
            generalize aloneN its R v dd = a1 at HA1 HA2
            generalize aloneE its R v dd = a2 at HA1 HA2
            obtain ⟨t1, t2, t3, t4, t5⟩ := v
            dsimp only [Ln.val] at *
            have HTB := Lib.hid (HT.out.later (alloc1 wr (.cells #[.int .i64 t1, .int .i64 t2, .int .i64 t3, .int .i64 t4, .int .i64 t5] 45)))
            have HBX := Lib.hid (Blk.new wr 45 #[.int .i64 t1, .int .i64 t2, .int .i64 t3, .int .i64 t4, .int .i64 t5])
            clear hv hvi
            go_wp2_with fail
            refine (HA1.out _ _ HTB.out).mono ?_
            rintro e w10 ⟨rfl, ht, hb⟩
            have HT10 := Lib.hid ht
            have HBX := Lib.hid (HBX.out.below hb HBX.out.lt)
            have x0 : w10.cell? ⟨wr.heap.size, 0, none⟩ = some (.int .i64 t1) := HBX.out.cell 0
            have x1 : w10.cell? ⟨wr.heap.size, 1, none⟩ = some (.int .i64 t2) := HBX.out.cell 1
            have x2 : w10.cell? ⟨wr.heap.size, 2, none⟩ = some (.int .i64 t3) := HBX.out.cell 2
            have x3 : w10.cell? ⟨wr.heap.size, 3, none⟩ = some (.int .i64 t4) := HBX.out.cell 3
            have x4 : w10.cell? ⟨wr.heap.size, 4, none⟩ = some (.int .i64 t5) := HBX.out.cell 4
            clear ht hb
            go_wp2_with fail
            refine (HA2.out _ _ HT10.out).mono ?_
            rintro e w11 ⟨rfl, ht, _⟩
            have HT11 := Lib.hid ht
            clear ht
            go_wp2_with fail
            go_roundw
            case rel => exact ⟨j + 1, by go_num, by omega, HT11.out⟩
            case measure => simp only [intOf]; omega
          · obtain rfl : j = q := by omega
            go_wp2_with fail
            go_ret
            exact ⟨rfl, HB.out.trans (HT.out.be.mono HB.out.size)⟩
theorem does_walk (A : Option Addr) (its : List It) (c : Nat) (B : Option Addr) (l : List Pz) (d : Nat) (i dd : Int) (C : Option Addr) (ls : List Ln) (f : Nat) (w : World) (hI : ∀ x ∈ its, ItI x) (hr : Row w 0 A (icells its)) (hs1 : its.length * 32 ≤ 140737488351232) (hlI : ∀ p ∈ l, p.I) (hrl : Row w 0 B (zcells l)) (hs2 : l.length * 24 ≤ 140737488351232) (hi : I64 i) (hd : I64 dd) (hnI : ∀ x ∈ ls, LnI x) (hrn : Row w 0 C (lcells ls)) (hs3 : ls.length * 40 ≤ 140737488351232) :
    Calls Try.prog 3 #[.slice A its.length c, .slice B l.length d, .int .i64 i, .int .i64 dd, .slice C ls.length f] w fun e w' => e = .returned (.bool true) ∧ Below w.heap.size w w' := by
  by_cases h : largeI its.length l.length = true ∨ 30 < ls.length
  · exact does_large A B C its.length l.length ls.length c d f i dd w h
  · have h1 : largeI its.length l.length = false := by
      cases e : largeI its.length l.length with
      | false => rfl
      | true => exact absurd (.inl e) h
    have h2 : ¬ 30 < ls.length := fun e => h (.inr e)
    by_cases hE : newE its = 0
    · exact does_ok A B C its l ls c d f i dd w hr hI hrl hlI hrn hnI h1 h2 hE
    · exact does_bad A B C its l.length ls.length c d f i dd w hr h1 h2 hE
end Go.Proofs.Ytleocecfcamjnaa.BK
