/- The walk of the law BookSets. -/
import Derived.Test.YtleocecfcamjnaaBookJ
namespace Go.Proofs.Ytleocecfcamjnaa.BK
open Go.RowKit Go.Proofs.Ytleocecfcamjnaa.Cents
set_option linter.unusedVariables false
set_option linter.unusedSimpArgs false

theorem below_in {w w1 w2 : World} (h : Below w.heap.size w w1) (k : Below w1.heap.size w1 w2) : Below w.heap.size w w2 := h.trans (k.mono h.size)
/-- A book of the call's own. -/
structure OwnB (w0 : World) (b : Nat) (its : List It) (R : List PRow) (w : World) : Prop where
  ex : ∃ S, BkW S b its R w ∧ ∀ k, S k → w0.heap.size ≤ k
  ok : BkOk its R
  be : Below w0.heap.size w0 w
section
variable {w0 w w' : World} {b : Nat} {its : List It} {R : List PRow}
theorem OwnB.later (h : OwnB w0 b its R w) (hb : Below w.heap.size w w') : OwnB w0 b its R w' := by
  obtain ⟨⟨S, h1, h2⟩, h3, h4⟩ := h
  exact ⟨⟨S, h1.later hb, h2⟩, h3, below_in h4 hb⟩
theorem OwnB.set (h : OwnB w0 b its R w) (item day n x : Int) (hn : I64 n) (hx : setE its R item day n = x) :
    Calls Try.prog 10 #[.pointer (some ⟨b, 0, none⟩), .int .i64 item, .int .i64 day, .int .i64 n] w fun e w' => e = .returned (.int .i64 x) ∧ OwnB w0 b its (setR its R item day n) w' := by
  obtain ⟨⟨S, h1, h2⟩, h3, h4⟩ := h
  refine (set_any h1 h3 item day n x _ ⟨hx, rfl⟩).mono ?_
  rintro e w' ⟨rfl, S2, k1, k2, k3, k4⟩
  refine ⟨rfl, ⟨S2, k1, fun k hk => (k4 k hk).elim (h2 k) (fun h => Nat.le_trans h4.size h)⟩, set_BkOk h3 item day n hn, h4.trans (fr_below k2 h4.size h2)⟩
theorem OwnB.price (h : OwnB w0 b its R w) (item day x y : Int) (hx : priceN its R item day = x ∧ priceE its.length item day = y) :
    Calls Try.prog 12 #[.pointer (some ⟨b, 0, none⟩), .int .i64 item, .int .i64 day] w fun e w' => e = .returned (.tuple #[.int .i64 x, .int .i64 y]) ∧ OwnB w0 b its R w' ∧ Below w.heap.size w w' := by
  obtain ⟨⟨S, h1, h2⟩, h3, h4⟩ := h
  refine (price_any h1 h3 item day x y hx).mono ?_
  rintro e w' ⟨rfl, hb⟩
  exact ⟨rfl, ⟨⟨S, h1.later hb, h2⟩, h3, below_in h4 hb⟩, hb⟩
end
theorem OwnB.new {w0 w : World} {A : Option Addr} {its : List It} {c : Nat} (hb : Below w0.heap.size w0 w) (hr : Row w 0 A (icells its)) (hI : ∀ x ∈ its, ItI x) (hE : newE its = 0) :
    Calls Try.prog 8 #[.slice A its.length c] w fun e w' => ∃ b, e = .returned (.tuple #[.pointer (some ⟨b, 0, none⟩), .int .i64 0]) ∧ OwnB w0 b its (rows0 its) w' ∧ w.heap.size ≤ b := by
  refine (new_ok A its c w hr hE).mono ?_
  rintro e w' ⟨S, b, rfl, h1, h2, h3⟩
  refine ⟨b, rfl, ⟨⟨S, h1, fun k hk => Nat.le_trans hb.size (h3 k hk)⟩, new_BkOk hE hI, below_in hb h2⟩, ?_⟩
  obtain ⟨I, cI, v, vals, h⟩ := h1
  exact h3 b h.sb
theorem setsL_large (A B : Option Addr) (n m c d : Nat) (x : Pz) (i dd : Int) (w : World) (h : largeI n m = true) :
    Calls Try.prog 4 #[.slice A n c, .slice B m d, x.val, .int .i64 i, .int .i64 dd] w fun e w' => e = .returned (.bool true) ∧ Below w.heap.size w w' := by
  have HL := Lib.hid (fun w => large_any A B n m c d w true h)
  clear h
  obtain ⟨x1, x2, x3⟩ := x
  dsimp only [Pz.val]
  go_enter Try.func4, Try.ntmps4
  go_wp2_with fail
  refine (awake_any _).mono ?_
  rintro e w1 ⟨rfl, hb⟩
  have HB := Lib.hid (below_in (alloc1 w (.cells #[.int .i64 x1, .int .i64 x2, .int .i64 x3] 35)) hb)
  clear hb
  go_wp2_with fail
  refine (HL.out _).mono ?_
  rintro e w2 ⟨rfl, rfl⟩
  go_wp2_with fail
  go_ret
  exact ⟨rfl, HB.out⟩
theorem setsL_bad (A B : Option Addr) (its : List It) (m c d : Nat) (x : Pz) (i dd : Int) (w : World) (hr : Row w 0 A (icells its)) (h : largeI its.length m = false) (hE : newE its ≠ 0) :
    Calls Try.prog 4 #[.slice A its.length c, .slice B m d, x.val, .int .i64 i, .int .i64 dd] w fun e w' => e = .returned (.bool true) ∧ Below w.heap.size w w' := by
  have HL := Lib.hid (fun w => large_any A B its.length m c d w false h)
  have hlen : its.length ≤ 1000000 := by unfold largeI at h; simp at h; omega
  have HN := Lib.hid (fun w1 (h : Row w1 0 A (icells its)) => new_bad A its c w1 h hlen _ rfl hE)
  have HR := Lib.hid hr
  generalize newE its = E at *
  generalize its.length = n at *
  clear h hE hr
  obtain ⟨x1, x2, x3⟩ := x
  dsimp only [Pz.val]
  go_enter Try.func4, Try.ntmps4
  go_wp2_with fail
  refine (awake_any _).mono ?_
  rintro e w1 ⟨rfl, hb⟩
  have HB := Lib.hid (below_in (alloc1 w (.cells #[.int .i64 x1, .int .i64 x2, .int .i64 x3] 35)) hb)
  clear hb
  go_wp2_with fail
  refine (HL.out _).mono ?_
  rintro e w2 ⟨rfl, rfl⟩
  go_wp2_with fail
  refine (HN.out _ (HR.out.below HB.out)).mono ?_
  rintro e w3 ⟨rfl, hb⟩
  have HB := Lib.hid (below_in HB.out hb)
  clear hb
  go_wp2_with fail
  go_ret
  exact ⟨rfl, HB.out⟩
set_option maxHeartbeats 2000000 in
set_option maxRecDepth 100000 in
theorem setsL_ok (A B : Option Addr) (its : List It) (l : List Pz) (c d : Nat) (x : Pz) (i dd : Int) (w : World) (hr : Row w 0 A (icells its)) (hI : ∀ x ∈ its, ItI x) (hrl : Row w 0 B (zcells l)) (hlI : ∀ p ∈ l, p.I) (hx : x.I) (h : largeI its.length l.length = false) (hE : newE its = 0) :
    Calls Try.prog 4 #[.slice A its.length c, .slice B l.length d, x.val, .int .i64 i, .int .i64 dd] w fun e w' => e = .returned (.bool true) ∧ Below w.heap.size w w' := by
  have HL := Lib.hid (fun w => large_any A B its.length l.length c d w false h)
  have hlen : l.length ≤ 130 := by unfold largeI at h; simp at h; omega
  have hwl := alloc1 w (.cells #[.int .i64 x.item, .int .i64 x.day, .int .i64 x.n] 35)
  have HN := Lib.hid (fun w1 (hb : Below w.heap.size w w1) => OwnB.new (w0 := w1) (c := c) (Below.refl _ _) (hr.below hb) hI hE)
  have HRL := Lib.hid hrl
  have HLI := Lib.hid hlI
  have hx3 := hx.2.2
  obtain ⟨x1, x2, x3⟩ := x
  dsimp only [Pz.val] at *
  obtain ⟨m, hm⟩ : ∃ m, l.length = m := ⟨_, rfl⟩
  have HM := Lib.hid hm
  rw [hm] at HL hlen ⊢
  obtain ⟨n, hn⟩ : ∃ n, its.length = n := ⟨_, rfl⟩
  have HNN := Lib.hid hn
  rw [hn] at HL HN ⊢
  have HX3 := Lib.hid hx3
  have HBX := Lib.hid (Blk.new w 35 #[.int .i64 x1, .int .i64 x2, .int .i64 x3])
  have HBA := Lib.hid hwl
  clear h hr hI hrl hlI hx hx3 hwl hm hn
  go_enter Try.func4, Try.ntmps4
  go_wp2_with fail
  refine (awake_any _).mono ?_
  rintro e w1 ⟨rfl, hb⟩
  have HBX := Lib.hid (HBX.out.below hb HBX.out.lt)
  have HB := Lib.hid (below_in HBA.out hb)
  clear hb
  go_wp2_with fail
  refine (HL.out _).mono ?_
  rintro e w2 ⟨rfl, rfl⟩
  go_wp2_with fail
  refine (HN.out _ HB.out).mono ?_
  rintro e w2 ⟨b, rfl, hown, hbb⟩
  have HO := Lib.hid hown
  clear hown hbb HN HL
  obtain ⟨R, hR⟩ : ∃ R, sets its (rows0 its) l = R := ⟨_, rfl⟩
  go_wp2_with fail
  go_loopw [36] (fun v wr => ∃ (k : Nat), v = .int .i64 (k : Int) ∧ k ≤ m ∧ OwnB w1 b its (sets its (rows0 its) (l.take k)) wr) (fun v _ => m - (intOf v).toNat)
  case atStart => exact ⟨0, rfl, by omega, HO.out⟩
  case round =>
    clear HO
    obtain ⟨k, rfl, hk, ho⟩ := hrel
    have HO := Lib.hid ho
    clear ho
    have g0 : (0 : Int) ≤ (k : Int) := Int.natCast_nonneg _
    by_cases hkm : k < m
    · have g1 : (k : Int) < (m : Int) := by omega
      obtain ⟨ad, rfl, c0, c1, c2⟩ := z_cells (HRL.out.below (HB.out.trans (HO.out.be.mono HB.out.size))) (j := k) (by rw [HM.out]; exact hkm)
      have hst := sets_take (its := its) (R := rows0 its) (l := l) (k := k) (by rw [HM.out]; exact hkm)
      have hpi := HLI.out _ (pzAt_mem (xs := l) (j := k) (by rw [HM.out]; exact hkm))
      obtain ⟨p, hp⟩ : ∃ p, pzAt l k = p := ⟨_, rfl⟩
      rw [hp] at c0 c1 c2 hst hpi
      obtain ⟨p1, p2, p3⟩ := p
      dsimp only at c0 c1 c2 hst
      have HST := Lib.hid hst
      have HPI := Lib.hid hpi.2.2
      clear hp hst hpi
      have HO2 := Lib.hid (HO.out.later (alloc1 wr (.cells #[.int .i64 p1, .int .i64 p2, .int .i64 p3] 35)))
      go_wp2_with fail
      refine (HO2.out.set p1 p2 p3 _ HPI.out rfl).mono ?_
      rintro e w3 ⟨rfl, ho⟩
      have HO3 := Lib.hid ho
      clear ho
      go_wp2_with fail
      go_roundw
      case rel => exact ⟨k + 1, by go_num, by omega, by rw [HST.out]; exact HO3.out⟩
      case measure => simp only [intOf]; omega
    · obtain rfl : k = m := by omega
      rw [show l.take k = l from List.take_of_length_le (by rw [HM.out]; exact Nat.le_refl _), hR] at HO
      clear hR
      have hok := HO.out.ok
      have HPR := Lib.hid (fun w' (h : OwnB w1 b its R w') => h.price i dd _ _ ⟨rfl, rfl⟩)
      obtain ⟨f, hf⟩ : ∃ f, setE its R x1 x2 x3 = f := ⟨_, rfl⟩
      have HS := Lib.hid (fun w' (h : OwnB w1 b its R w') => h.set x1 x2 x3 f HX3.out hf)
      have HPR2 := Lib.hid (fun w' (h : OwnB w1 b its (setR its R x1 x2 x3) w') => h.price i dd _ _ ⟨rfl, rfl⟩)
      have HPR3 := Lib.hid (fun w' (h : OwnB w1 b its (setR its R x1 x2 x3) w') => h.price x1 x2 _ _ ⟨rfl, rfl⟩)
      have hsame : (f ≠ 0 ∨ i ≠ x1 ∨ dd < x2) → priceN its (setR its R x1 x2 x3) i dd = priceN its R i dd := fun h => by
        rcases h with h | h | h
        · rw [set_same (by rw [hf]; exact h)]
        · exact price_other hok h
        · by_cases h2 : i = x1
          · subst h2; exact price_ahead hok h
          · exact price_other hok h2
      have hset : f = 0 → i = x1 → x2 ≤ dd → (priceN its (setR its R x1 x2 x3) x1 x2 = x3 ∧ priceE its.length x1 x2 = 0) ∧ (priceN its (setR its R x1 x2 x3) i dd = x3 ∨ priceN its (setR its R x1 x2 x3) i dd = priceN its R i dd) := fun h1 h2 h3 => by
        subst h2
        exact price_set hok (by rw [hf]; exact h1) h3
      have HSAME := Lib.hid hsame
      have HSET := Lib.hid hset
      clear hsame hset hok hf hE
      generalize setR its R x1 x2 x3 = R2 at *
      generalize priceN its R i dd = was at *
      generalize priceN its R2 i dd = now at *
      generalize priceN its R2 x1 x2 = at_ at *
      generalize priceE its.length i dd = E at *
      generalize priceE its.length x1 x2 = E2 at *
      go_wp2_with fail
      refine (HPR.out _ HO.out).mono ?_
      rintro e w4 ⟨rfl, ho, _⟩
      have HO4 := Lib.hid ho
      have HBX4 := Lib.hid (HBX.out.below ho.be HBX.out.lt)
      have k0 : w4.cell? ⟨w.heap.size, 0, none⟩ = some (.int .i64 x1) := HBX4.out.cell 0
      have k1 : w4.cell? ⟨w.heap.size, 1, none⟩ = some (.int .i64 x2) := HBX4.out.cell 1
      have k2 : w4.cell? ⟨w.heap.size, 2, none⟩ = some (.int .i64 x3) := HBX4.out.cell 2
      clear ho
      go_wp2_with fail
      refine (HS.out _ HO4.out).mono ?_
      rintro e w5 ⟨rfl, ho⟩
      have HO5 := Lib.hid ho
      clear ho k0 k1 k2
      go_wp2_with fail
      refine (HPR2.out _ HO5.out).mono ?_
      rintro e w6 ⟨rfl, ho, _⟩
      have HO6 := Lib.hid ho
      have HBX6 := Lib.hid (HBX.out.below ho.be HBX.out.lt)
      have k0 : w6.cell? ⟨w.heap.size, 0, none⟩ = some (.int .i64 x1) := HBX6.out.cell 0
      have k1 : w6.cell? ⟨w.heap.size, 1, none⟩ = some (.int .i64 x2) := HBX6.out.cell 1
      have k2 : w6.cell? ⟨w.heap.size, 2, none⟩ = some (.int .i64 x3) := HBX6.out.cell 2
      have HBE := Lib.hid (below_in HB.out ho.be)
      clear ho
      by_cases hsm : f ≠ 0 ∨ i ≠ x1 ∨ dd < x2
      · have hn := HSAME.out hsm
        subst hn
        by_cases f0 : f = 0
        · subst f0
          by_cases f1 : i = x1
          · subst f1
            have f2 : decide (dd < x2) = true := by simp; omega
            have f2b : dd < x2 := by omega
            clear hsm
            go_wp2_with fail
            go_ret
            exact ⟨rfl, HBE.out⟩
          · have f2 : (i != x1) = true := by simpa using f1
            clear hsm
            go_wp2_with fail
            go_ret
            exact ⟨rfl, HBE.out⟩
        · have f2 : (f != 0) = true := by simpa using f0
          clear hsm
          go_wp2_with fail
          go_ret
          exact ⟨rfl, HBE.out⟩
      · have f0 : f = 0 := by omega
        have f1 : i = x1 := by omega
        have f2 : x2 ≤ dd := by omega
        obtain ⟨⟨h1, h2⟩, h3⟩ := HSET.out f0 f1 f2
        subst f0 f1 h1 h2
        have f3 : decide (dd < x2) = false := by simp; omega
        have f4 : ¬ dd < x2 := by omega
        clear hsm
        go_wp2_with fail
        refine (HPR3.out _ HO6.out).mono ?_
        rintro e w7 ⟨rfl, ho, _⟩
        have HBX7 := Lib.hid (HBX.out.below ho.be HBX.out.lt)
        have m2 : w7.cell? ⟨w.heap.size, 2, none⟩ = some (.int .i64 at_) := HBX7.out.cell 2
        have HBE7 := Lib.hid (below_in HB.out ho.be)
        clear ho k0 k1 k2
        by_cases h5 : now = at_
        · subst h5
          go_wp2_with fail
          go_ret
          exact ⟨rfl, HBE7.out⟩
        · have h6 : now = was := h3.resolve_left h5
          subst h6
          have h7 : (now == at_) = false := by simpa using h5
          go_wp2_with fail
          go_ret
          exact ⟨rfl, HBE7.out⟩
theorem setsL_walk (A : Option Addr) (its : List It) (c : Nat) (B : Option Addr) (l : List Pz) (d : Nat) (x : Pz) (i dd : Int) (w : World) (hI : ∀ x ∈ its, ItI x) (hr : Row w 0 A (icells its)) (hs1 : its.length * 32 ≤ 140737488351232) (hlI : ∀ p ∈ l, p.I) (hrl : Row w 0 B (zcells l)) (hs2 : l.length * 24 ≤ 140737488351232) (hx : x.I) (hi : I64 i) (hd : I64 dd) :
    Calls Try.prog 4 #[.slice A its.length c, .slice B l.length d, x.val, .int .i64 i, .int .i64 dd] w fun e w' => e = .returned (.bool true) ∧ Below w.heap.size w w' := by
  cases h : largeI its.length l.length with
  | true => exact setsL_large A B its.length l.length c d x i dd w h
  | false =>
    by_cases hE : newE its = 0
    · exact setsL_ok A B its l c d x i dd w hr hI hrl hlI hx h hE
    · exact setsL_bad A B its l.length c d x i dd w hr h hE
end Go.Proofs.Ytleocecfcamjnaa.BK
