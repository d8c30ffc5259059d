/- The walks of duty's Charge, the reference's One and Same (of equal ones), awake. -/
import Derived.Test.YtbdhbongaikphaaDutyD
import Derived.Test.YtbdhbongaikphaaSum
import Derived.Deep.RegionHeld3
namespace Go.Proofs.Ytbdhbongaikphaa.BK
open Go.RowKit Go.Proofs.Ytbdhbongaikphaa.Cents Go.Proofs.Ytbdhbongaikphaa.DU Go.Proofs.Ytbdhbongaikphaa.Exact
set_option linter.unusedVariables false
set_option linter.unusedSimpArgs false

theorem info_i64d : (Try.prog.info? 2).map (fun i => (i.zero, i.size, i.bytes)) = some (some (.int .i64 0), 1, 8) := by kernel_rfl
theorem E_i64d : ElemT Try.prog 41 2 1 8 := .mk' Try.underlying41 info_i64d rfl (by decide)
theorem int_at {w : World} {A : Option Addr} {xs : List Int} (hr : Row w 0 A (ints xs)) {j : Nat} (h : j < xs.length) : ∃ ad, A = some ad ∧ w.cell? (ad.add j) = some (.int .i64 (xs.getD j 0)) := by
  obtain ⟨ad, e, _, hc⟩ := hr.at_ (k := j) (by rw [ints_len]; exact h)
  refine ⟨ad, e, ?_⟩
  rw [hc]
  simp [ints, List.getD_eq_getElem?_getD, h]
theorem find_nil (A : Option Addr) (n c : Nat) (day : Int) (w : World) : Calls Try.prog 11 #[.pointer none, .slice A n c, .int .i64 day] w fun e w' => e = .returned (.tuple #[.slice none 0 0, .int .i64 1]) ∧ w = w' := by
  go_enter Try.func11, Try.ntmps11
  go_wp2_with fail
  go_ret2
  exact ⟨rfl, rfl⟩
def chL (ls : List Ln) (j : Nat) : List Int := (List.range j).map (fun i => (lnAt ls i).charge)
theorem chL_succ (ls : List Ln) (j : Nat) : chL ls (j + 1) = chL ls j ++ [(lnAt ls j).charge] := by simp [chL, List.range_succ]
theorem chL_len (ls : List Ln) (j : Nat) : (chL ls j).length = j := by simp [chL]
set_option maxHeartbeats 2000000 in
set_option maxRecDepth 100000 in
theorem charge_any (A : Option Addr) (ls : List Ln) (c : Nat) (w : World) (hr : Row w 0 A (lcells ls)) (hl : ls.length ≤ 1000) (hI : ∀ i, i < ls.length → I64 (lnAt ls i).charge) :
    Calls Try.prog 9 #[.slice A ls.length c] w fun e w' => e = .returned (sumT (chL ls ls.length).sum) ∧ Below w.heap.size w w' := by
  have HR := Lib.hid hr
  have HI := Lib.hid hI
  obtain ⟨n, hn⟩ : ∃ n, ls.length = n := ⟨_, rfl⟩
  rw [hn] at hl HI ⊢
  have HN := Lib.hid hn
  clear hr hI hn
  go_enter Try.func9, Try.ntmps9
  go_wp2_with fail
  go_loopw [4, 9] (fun v ii wr => ∃ (k : Nat) (B : Option Addr) (cb : Nat), v = .slice B k cb ∧ ii = .int .i64 (k : Int) ∧ k ≤ n ∧ wr.ownsRow w.heap.size 2 1 (.slice B k cb) k (ints (chL ls k)) ∧ Below w.heap.size w wr) (fun _ ii _ => n - (intOf ii).toNat)
  case atStart => exact ⟨0, none, 0, rfl, rfl, by omega, World.ownsRow_nil _ _ _ _, Below.refl _ _⟩
  case round =>
    obtain ⟨k, B, cb, rfl, rfl, hk, hown, hbe⟩ := hrel
    have HO := Lib.hid hown
    have HB := Lib.hid hbe
    have k0 : (0 : Int) ≤ (k : Int) := Int.natCast_nonneg _
    by_cases hlt : k < n
    · have hkl : k < ls.length := by rw [HN.out]; exact hlt
      obtain ⟨ad, rfl, x0, x1, x2, x3, x4⟩ := l_cells (HR.out.below hbe) hkl
      have HCH := Lib.hid (chL_succ ls k)
      obtain ⟨x, hx⟩ : ∃ x, lnAt ls k = x := ⟨_, rfl⟩
      rw [hx] at x0 x1 x2 x3 x4 HCH
      obtain ⟨t1, t2, t3, t4, t5⟩ := x
      dsimp only at x0 x1 x2 x3 x4 HCH
      have k1 : (k : Int) < (n : Int) := by omega
      have hb1 : (k + 1) * 8 ≤ 140737488355328 := by omega
      have hb2 : k + 1 ≤ maxLen := by unfold maxLen; omega
      have HOA := Lib.hid ((hown.alloc (.cells #[.int .i64 t1, .int .i64 t2, .int .i64 t3, .int .i64 t4, .int .i64 t5] 45)).alloc (.cells #[.int .i64 t3] 2))
      have HBA := Lib.hid (((hbe.alloc hbe.size (.cells #[.int .i64 t1, .int .i64 t2, .int .i64 t3, .int .i64 t4, .int .i64 t5] 45))).alloc (by have := hbe.size; simp; omega) (.cells #[.int .i64 t3] 2))
      have HNW := Lib.hid (show Blk ((wr.alloc (.cells #[.int .i64 t1, .int .i64 t2, .int .i64 t3, .int .i64 t4, .int .i64 t5] 45)).alloc (.cells #[.int .i64 t3] 2)) (wr.heap.size + 1) 2 #[.int .i64 t3] from by
        have := Blk.new (wr.alloc (.cells #[.int .i64 t1, .int .i64 t2, .int .i64 t3, .int .i64 t4, .int .i64 t5] 45)) 2 #[.int .i64 t3]
        simpa using this)
      clear hown hbe hx
      go_wp2_with (at_builtin; refine wpList_app E_i64d rfl (.tmp 13) (.tmp 16) rfl rfl HOA.out ⟨wr.heap.size + 1, 0, none⟩ 1 1 [.int .i64 t3] rfl rfl (World.news_of_block HNW.out) (by simp [Value.oneCell']) hb1 hb2 (HBA.out.size) (by decide) ?_; intro g8 c8 w8 ho8 hg8 hat8; have HO8 := Lib.hid ho8; have HB8 := Lib.hid (HBA.out.grown hg8 HBA.out.size (fun q hq => (HOA.out.lt q hq).1)); clear ho8 hg8 hat8)
      go_roundw
      case rel => exact ⟨k + 1, _, _, rfl, by go_num, by omega, by rw [HCH.out, ints_snocD]; exact HO8.out, HB8.out⟩
      case measure => simp only [intOf]; omega
    · obtain rfl : k = n := by omega
      have hs := sum_any B (chL ls k) cb wr (fun x hx => by
        unfold chL at hx
        obtain ⟨i, hi, rfl⟩ := List.mem_map.1 hx
        exact HI.out i (List.mem_range.1 hi)) ((Row.of_own hown (by decide)).weak (Nat.zero_le _)) (by rw [chL_len]; omega)
      rw [chL_len] at hs
      have HS := Lib.hid hs
      clear hs hown hbe
      go_wp2_with fail
      refine HS.out.mono ?_
      rintro e w2 ⟨rfl, hb2⟩
      have HB2 := Lib.hid (HB.out.trans (hb2.mono HB.out.size))
      clear hb2
      unfold sumT
      go_wp2_with fail
      go_ret2
      exact ⟨rfl, HB2.out⟩
set_option maxHeartbeats 4000000 in
set_option maxRecDepth 100000 in
theorem one_same (A B : Option Addr) (n ca cb : Nat) (L : List Int) (a u m f l : Int) (w : World) (hA : Row w 0 A (ints L)) (hB : Row w 0 B (ints L)) (hn : L.length = n) (hn2 : n ≤ 1000) :
    Calls Try.prog 16 #[.agg #[.slice A n ca, .int .i64 a, .int .i64 u, .int .i64 m, .int .i64 f, .int .i64 l], .agg #[.slice B n cb, .int .i64 a, .int .i64 u, .int .i64 m, .int .i64 f, .int .i64 l], .bool true] w fun e w' => e = .returned (.bool true) ∧ Below w.heap.size w w' := by
  have HA := Lib.hid hA
  have HB := Lib.hid hB
  have HN := Lib.hid hn
  have HX := Lib.hid ((Blk.new w 43 #[.slice A n ca, .int .i64 a, .int .i64 u, .int .i64 m, .int .i64 f, .int .i64 l]).alloc (.cells #[.slice B n cb, .int .i64 a, .int .i64 u, .int .i64 m, .int .i64 f, .int .i64 l] 43))
  have HY := Lib.hid (show Blk ((w.alloc (.cells #[.slice A n ca, .int .i64 a, .int .i64 u, .int .i64 m, .int .i64 f, .int .i64 l] 43)).alloc (.cells #[.slice B n cb, .int .i64 a, .int .i64 u, .int .i64 m, .int .i64 f, .int .i64 l] 43)) (w.heap.size + 1) 43 #[.slice B n cb, .int .i64 a, .int .i64 u, .int .i64 m, .int .i64 f, .int .i64 l] from by
    have := Blk.new (w.alloc (.cells #[.slice A n ca, .int .i64 a, .int .i64 u, .int .i64 m, .int .i64 f, .int .i64 l] 43)) 43 #[.slice B n cb, .int .i64 a, .int .i64 u, .int .i64 m, .int .i64 f, .int .i64 l]
    simpa using this)
  have HBE := Lib.hid ((alloc1 w (.cells #[.slice A n ca, .int .i64 a, .int .i64 u, .int .i64 m, .int .i64 f, .int .i64 l] 43)).alloc (alloc1 w _).size (.cells #[.slice B n cb, .int .i64 a, .int .i64 u, .int .i64 m, .int .i64 f, .int .i64 l] 43))
  clear hA hB hn
  go_enter Try.func16, Try.ntmps16
  go_wp2_with fail
  obtain ⟨w1, hw1⟩ : ∃ w1, (w.alloc (.cells #[.slice A n ca, .int .i64 a, .int .i64 u, .int .i64 m, .int .i64 f, .int .i64 l] 43)).alloc (.cells #[.slice B n cb, .int .i64 a, .int .i64 u, .int .i64 m, .int .i64 f, .int .i64 l] 43) = w1 := ⟨_, rfl⟩
  obtain ⟨Z, hZ⟩ : ∃ Z, w.heap.size = Z := ⟨_, rfl⟩
  rw [hw1] at HX HY HBE ⊢
  have hbe := HBE.out
  rw [hZ] at HX HY ⊢
  clear hw1 hZ
  go_loopw [7] (fun v wr => ∃ k : Nat, v = .int .i64 (k : Int) ∧ k ≤ n ∧ Below w1.heap.size w1 wr) (fun v _ => n - (intOf v).toNat)
  case atStart => exact ⟨0, rfl, by omega, Below.refl _ _⟩
  case round =>
    obtain ⟨k, rfl, hk, hb⟩ := hrel
    have HB1 := Lib.hid hb
    have hx := HX.out.below hb HX.out.lt
    have hy := HY.out.below hb HY.out.lt
    have x0 : wr.cell? ⟨Z, 0, none⟩ = some (.slice A n ca) := hx.cell 0
    have y0 : wr.cell? ⟨Z + 1, 0, none⟩ = some (.slice B n cb) := hy.cell 0
    have k0 : (0 : Int) ≤ (k : Int) := Int.natCast_nonneg _
    have HBW := Lib.hid (HBE.out.trans (hb.mono HBE.out.size))
    clear hx hy hb
    by_cases hlt : k < n
    · obtain ⟨ad, rfl, z0⟩ := int_at (HA.out.below HBW.out) (j := k) (by rw [HN.out]; exact hlt)
      obtain ⟨bd, rfl, z1⟩ := int_at (HB.out.below HBW.out) (j := k) (by rw [HN.out]; exact hlt)
      generalize L.getD k 0 = v at *
      have k1 : (k : Int) < (n : Int) := by omega
      go_wp2_with fail
      go_quiet (fail)
      go_wp2_with fail
      go_roundw
      case rel => exact ⟨k + 1, by go_num, by omega, Later.drewN HB1.out nq⟩
      case measure => simp only [intOf]; omega
    · obtain rfl : k = n := by omega
      go_wp2_with fail
      go_ret
      exact ⟨rfl, HBW.out⟩
end Go.Proofs.Ytbdhbongaikphaa.BK
