/- What a book's rows are like behind New and Set; the walk of awake. -/
import Derived.Test.YtleocecfcamjnaaBookH
namespace Go.Proofs.Ytleocecfcamjnaa.BK
open Go.RowKit Go.Proofs.Ytleocecfcamjnaa.Cents
set_option linter.unusedVariables false
set_option linter.unusedSimpArgs false

def ItI (x : It) : Prop := I64 x.tag ∧ I64 x.group ∧ I64 x.method ∧ I64 x.price
theorem new_BkOk {its : List It} (hE : newE its = 0) (hI : ∀ x ∈ its, ItI x) : BkOk its (rows0 its) := by
  unfold newE at hE
  have h1 : ¬ 40 < its.length := fun h => by rw [if_pos h] at hE; omega
  refine ⟨by omega, by simp [rows0], fun x hx => hI x hx, fun i hi => ?_⟩
  rw [rowAt0 hi]
  refine ⟨by simp [Asc], ⟨_, List.mem_singleton_self _, rfl⟩, fun p hp => ?_, by simp⟩
  rw [List.mem_singleton] at hp
  subst hp
  exact (hI _ (itAt_mem hi)).2.2.2
theorem setE_ok {its : List It} {rows : List PRow} {item day n : Int} (h : setE its rows item day n = 0) : inI its.length item = true ∧ 1 ≤ day ∧ day ≤ 1000000 ∧ 1 ≤ n ∧ isAt (rowAt rows item.toNat) day = false ∧ (rowAt rows item.toNat).length ≤ 100 ∧ item.toNat < its.length ∧ 0 ≤ item := by
  unfold setE at h
  split at h
  · rename_i h1
    split at h
    · omega
    · rename_i h2
      split at h
      · omega
      · rename_i h3
        split at h
        · omega
        · rename_i h4
          unfold inI at h1
          have h5 := h1
          simp only [Bool.and_eq_true, decide_eq_true_eq] at h1
          exact ⟨h5, by omega, by omega, by omega, by simpa using h3, by omega, by omega, h1.1⟩
  · omega
theorem set_BkOk {its : List It} {rows : List PRow} (hk : BkOk its rows) (item day n : Int) (hn : I64 n) : BkOk its (setR its rows item day n) := by
  unfold setR
  split
  · rename_i h
    obtain ⟨h1, h2, h3, h4, h5, h6, h7, h8⟩ := setE_ok h
    refine ⟨hk.len, by rw [List.length_set]; exact hk.rlen, hk.i64, fun i hi => ?_⟩
    rw [rowAt_set (by rw [hk.rlen]; exact h7)]
    split
    · have hro := hk.row item.toNat h7
      refine ⟨put_asc hro.asc h5, ?_, fun p hp => ?_, by rw [put_len]; omega⟩
      · obtain ⟨p, hp, e⟩ := hro.first
        exact ⟨p, (mem_put _ _ _ _).2 (.inr hp), e⟩
      · rcases (mem_put _ _ _ _).1 hp with e | e
        · rw [e]; exact hn
        · exact hro.i64 p e
    · exact hk.row i hi
  · exact hk
theorem fr_below {S : Nat → Prop} {B : Nat} {w1 w2 : World} (h : Fr S w1 w2) (hB : B ≤ w1.heap.size) (hS : ∀ k, S k → B ≤ k) : Below B w1 w2 :=
  ⟨h.os, h.tape, h.output, h.size, fun i hi => h.block i (by omega) (fun hs => by have := hS i hs; omega)⟩
/-- What Set does, whatever it answers. -/
theorem set_any {S : Nat → Prop} {b : Nat} {its : List It} {rows : List PRow} {w : World} (h : BkW S b its rows w) (hk : BkOk its rows) (item day n x : Int) (R : List PRow) (hx : setE its rows item day n = x ∧ setR its rows item day n = R) :
    Calls Try.prog 10 #[.pointer (some ⟨b, 0, none⟩), .int .i64 item, .int .i64 day, .int .i64 n] w (SetRet S b its R w x) := by
  obtain ⟨hx, hR⟩ := hx
  by_cases h0 : x = 0
  · subst h0
    rw [← hR]
    exact set_ok h hk item day n hx
  · have hR2 : rows = R := by rw [← hR]; unfold setR; rw [hx, if_neg h0]
    refine (set_bad h hk item day n x hx h0).mono ?_
    rintro e w' ⟨h1, h2⟩
    rw [← hR2]
    exact ⟨h1, S, h.later h2, Fr.later h2, fun _ h => h, fun _ h => .inl h⟩

def its1 : List It := [⟨0, 0, 0, 100⟩]
def rows1 : List PRow := rows0 its1
def rows2 : List PRow := setR its1 rows1 0 10 120
theorem ok1 : BkOk its1 rows1 := new_BkOk (by decide) (by intro x hx; simp [its1] at hx; subst hx; refine ⟨?_, ?_, ?_, ?_⟩ <;> exact ⟨by decide, by decide⟩)
theorem ok2 : BkOk its1 rows2 := set_BkOk ok1 0 10 120 (by unfold I64; omega)
theorem s1 : setE its1 rows1 0 10 120 = 0 := by decide +kernel
theorem s2 : setE its1 rows2 0 10 130 = 6 ∧ setR its1 rows2 0 10 130 = rows2 := by decide +kernel
theorem p1 : priceN its1 rows2 0 9 = 100 ∧ priceE its1.length 0 9 = 0 := by decide +kernel
theorem p2 : priceN its1 rows2 0 10 = 120 ∧ priceE its1.length 0 10 = 0 := by decide +kernel
theorem p3 : priceN its1 rows2 1 10 = 0 ∧ priceE its1.length 1 10 = 5 := by decide +kernel
theorem a1 : aloneN its1 rows2 ⟨0, 3, 0, 1, 1⟩ 11 = 360 ∧ aloneE its1 rows2 ⟨0, 3, 0, 1, 1⟩ 11 = 0 := by decide +kernel
theorem k1 : checkE its1.length [⟨0, 3, 0, 1, 1⟩] = 0 := by decide +kernel
theorem k2 : checkE its1.length [] = 1 := by decide +kernel
theorem i1 : itN its1 0 = ⟨0, 0, 0, 100⟩ ∧ inI its1.length 0 = true := by decide +kernel

theorem row_one (w : World) (x : It) : Row (w.alloc (.cells #[.int .i64 x.tag, .int .i64 x.group, .int .i64 x.method, .int .i64 x.price] 40)) 0 (some ⟨w.heap.size, 0, none⟩) (icells [x]) :=
  Row.of_blk (Blk.new w _ _) (Nat.zero_le _) (by simp [icells, It.cell])
theorem row_ln (w : World) (x : Ln) : Row (w.alloc (.cells #[.int .i64 x.item, .int .i64 x.units, .int .i64 x.charge, .int .i64 x.first, .int .i64 x.last] 45)) 0 (some ⟨w.heap.size, 0, none⟩) (lcells [x]) :=
  Row.of_blk (Blk.new w _ _) (Nat.zero_le _) (by simp [lcells, Ln.cell])
set_option maxHeartbeats 2000000 in
set_option maxRecDepth 100000 in
theorem awake_any (w : World) : Calls Try.prog 6 #[] w fun e w' => e = .returned (.bool true) ∧ Below w.heap.size w w' := by
  have HN1 := Lib.hid (fun w' A c (h : Row w' 0 A (icells its1)) => (show Calls Try.prog 8 #[.slice A 1 c] w' (NewRet its1 w') from new_ok A its1 c w' h (by decide)))
  have HN2 := Lib.hid (fun w' A c (h : Row w' 0 A (icells [⟨0, 0, 0, 0⟩])) => (show Calls Try.prog 8 #[.slice A 1 c] w' _ from new_bad A [⟨0, 0, 0, 0⟩] c w' h (by decide) 1 (by decide) (by decide)))
  have HC1 := Lib.hid (fun S b w' A c (hb : BkW S b its1 rows2 w') (h : Row w' 0 A (lcells [⟨0, 3, 0, 1, 1⟩])) => (show Calls Try.prog 15 #[.pointer (some ⟨b, 0, none⟩), .slice A 1 c] w' _ from check_any hb A [⟨0, 3, 0, 1, 1⟩] c h (by decide) 0 k1))
  have HC2 := Lib.hid (fun S b w' (hb : BkW S b its1 rows2 w') => (show Calls Try.prog 15 #[.pointer (some ⟨b, 0, none⟩), .slice none 0 0] w' _ from check_any hb none [] 0 Row.none_ (by decide) 1 k2))
  have hrow1 := row_one w ⟨0, 0, 0, 100⟩
  have HR1 := Lib.hid hrow1
  clear hrow1
  go_enter Try.func6, Try.ntmps6
  go_wp2_with fail
  refine (HN1.out _ _ _ HR1.out).mono ?_
  rintro e w1 ⟨S, b, rfl, hb, hbe, hS⟩
  have HB := Lib.hid hb
  have HBE := Lib.hid ((alloc1 w (.cells #[.int .i64 0, .int .i64 0, .int .i64 0, .int .i64 100] 40)).trans (hbe.mono (by simp)))
  have HS := Lib.hid (fun k hk => Nat.le_trans (by simp : w.heap.size ≤ (w.alloc (.cells #[.int .i64 0, .int .i64 0, .int .i64 0, .int .i64 100] 40)).heap.size) (hS k hk))
  have HR2 := Lib.hid (row_one w1 ⟨0, 0, 0, 0⟩)
  clear hb hbe hS HR1
  go_wp2_with fail
  refine (HN2.out _ _ _ HR2.out).mono ?_
  rintro e w2 ⟨rfl, hb2⟩
  have hl := (alloc1 w1 (.cells #[.int .i64 0, .int .i64 0, .int .i64 0, .int .i64 0] 40)).trans (hb2.mono (by simp))
  have HB := Lib.hid (HB.out.later hl)
  have HBE := Lib.hid (HBE.out.trans (hl.mono HBE.out.size))
  clear hb2 hl HR2
  go_wp2_with fail
  refine (set_any HB.out ok1 0 10 120 0 rows2 ⟨s1, rfl⟩).mono ?_
  rintro e w3 ⟨rfl, Sb, hb, hf, h1, h2⟩
  have HB := Lib.hid hb
  have HS2 := Lib.hid (fun k hk => (h2 k hk).elim (HS.out k) (fun h => Nat.le_trans HBE.out.size h))
  have HBE := Lib.hid (HBE.out.trans (fr_below hf HBE.out.size HS.out))
  clear hb hf h1 h2
  go_wp2_with fail
  refine (set_any HB.out ok2 0 10 130 6 rows2 s2).mono ?_
  rintro e w4 ⟨rfl, Sc, hb, hf, h1, h2⟩
  have HB := Lib.hid hb
  have HBE := Lib.hid (HBE.out.trans (fr_below hf HBE.out.size HS2.out))
  clear hb hf h1 h2
  go_wp2_with fail
  refine (price_any HB.out ok2 0 9 100 0 p1).mono ?_
  rintro e w5 ⟨rfl, hb⟩
  have HB := Lib.hid (HB.out.later hb)
  have HBE := Lib.hid (HBE.out.trans (hb.mono HBE.out.size))
  clear hb
  go_wp2_with fail
  refine (price_any HB.out ok2 0 10 120 0 p2).mono ?_
  rintro e w6 ⟨rfl, hb⟩
  have HB := Lib.hid (HB.out.later hb)
  have HBE := Lib.hid (HBE.out.trans (hb.mono HBE.out.size))
  clear hb
  go_wp2_with fail
  refine (price_any HB.out ok2 1 10 0 5 p3).mono ?_
  rintro e w7 ⟨rfl, hb⟩
  have HB := Lib.hid (HB.out.later hb)
  have HBE := Lib.hid (HBE.out.trans (hb.mono HBE.out.size))
  clear hb
  go_wp2_with fail
  have hl := alloc1 w7 (.cells #[.int .i64 0, .int .i64 3, .int .i64 0, .int .i64 1, .int .i64 1] 45)
  have HX := Lib.hid (Blk.new w7 45 #[.int .i64 0, .int .i64 3, .int .i64 0, .int .i64 1, .int .i64 1])
  have HB := Lib.hid (HB.out.later hl)
  have HBE := Lib.hid (HBE.out.trans (hl.mono HBE.out.size))
  clear hl
  refine (alone_any HB.out ok2 ⟨0, 3, 0, 1, 1⟩ ⟨by decide, by decide⟩ 11 360 0 a1).mono ?_
  rintro e w8 ⟨rfl, hb⟩
  have HB := Lib.hid (HB.out.later hb)
  have HX := Lib.hid (HX.out.below hb HX.out.lt)
  have HBE := Lib.hid (HBE.out.trans (hb.mono HBE.out.size))
  clear hb
  go_wp2_with fail
  refine (item_any HB.out (by decide) 0 ⟨0, 0, 0, 100⟩ true i1).mono ?_
  rintro e w9 ⟨rfl, hb⟩
  have HB := Lib.hid (HB.out.later hb)
  have HX := Lib.hid (HX.out.below hb HX.out.lt)
  have HBE := Lib.hid (HBE.out.trans (hb.mono HBE.out.size))
  clear hb
  try dsimp only [It.val]
  have hl := alloc1 w9 (.cells #[.int .i64 0, .int .i64 0, .int .i64 0, .int .i64 100] 40)
  have HX := Lib.hid (HX.out.below hl HX.out.lt)
  have x0 : (w9.alloc (.cells #[.int .i64 0, .int .i64 0, .int .i64 0, .int .i64 100] 40)).cell? ⟨w7.heap.size, 0, none⟩ = some (.int .i64 0) := HX.out.cell 0
  have x1 : (w9.alloc (.cells #[.int .i64 0, .int .i64 0, .int .i64 0, .int .i64 100] 40)).cell? ⟨w7.heap.size, 1, none⟩ = some (.int .i64 3) := HX.out.cell 1
  have x2 : (w9.alloc (.cells #[.int .i64 0, .int .i64 0, .int .i64 0, .int .i64 100] 40)).cell? ⟨w7.heap.size, 2, none⟩ = some (.int .i64 0) := HX.out.cell 2
  have x3 : (w9.alloc (.cells #[.int .i64 0, .int .i64 0, .int .i64 0, .int .i64 100] 40)).cell? ⟨w7.heap.size, 3, none⟩ = some (.int .i64 1) := HX.out.cell 3
  have x4 : (w9.alloc (.cells #[.int .i64 0, .int .i64 0, .int .i64 0, .int .i64 100] 40)).cell? ⟨w7.heap.size, 4, none⟩ = some (.int .i64 1) := HX.out.cell 4
  have HB := Lib.hid (HB.out.later hl)
  have HBE := Lib.hid (HBE.out.trans (hl.mono HBE.out.size))
  clear hl
  have hrow := row_ln (w9.alloc (.cells #[.int .i64 0, .int .i64 0, .int .i64 0, .int .i64 100] 40)) ⟨0, 3, 0, 1, 1⟩
  rw [show (w9.alloc (.cells #[.int .i64 0, .int .i64 0, .int .i64 0, .int .i64 100] 40)).heap.size = w9.heap.size + 1 by simp] at hrow
  have HROW := Lib.hid hrow
  have hl2 := alloc1 (w9.alloc (.cells #[.int .i64 0, .int .i64 0, .int .i64 0, .int .i64 100] 40)) (.cells #[.int .i64 0, .int .i64 3, .int .i64 0, .int .i64 1, .int .i64 1] 45)
  have HB := Lib.hid (HB.out.later hl2)
  have HBE := Lib.hid (HBE.out.trans (hl2.mono HBE.out.size))
  clear hrow hl2
  go_wp2_with fail
  refine (HC1.out _ _ _ _ _ HB.out HROW.out).mono ?_
  rintro e w10 ⟨rfl, hb⟩
  have HB := Lib.hid (HB.out.later hb)
  have HBE := Lib.hid (HBE.out.trans (hb.mono HBE.out.size))
  clear hb
  go_wp2_with fail
  refine (HC2.out _ _ _ HB.out).mono ?_
  rintro e w11 ⟨rfl, hb⟩
  have HBE := Lib.hid (HBE.out.trans (hb.mono HBE.out.size))
  clear hb
  go_wp2_with fail
  go_ret
  exact ⟨rfl, HBE.out⟩
end Go.Proofs.Ytleocecfcamjnaa.BK
