/- The reference's One where places don't count. -/
import Derived.Test.YtbdhbongaikphaaDutyF
import Derived.Test.YtbdhbongaikphaaDutyT
namespace Go.Proofs.Ytbdhbongaikphaa.BK
open Go.RowKit Go.Proofs.Ytbdhbongaikphaa.Cents Go.Proofs.Ytbdhbongaikphaa.DU Go.Proofs.Ytbdhbongaikphaa.Exact
set_option linter.unusedVariables false
set_option linter.unusedSimpArgs false

set_option maxHeartbeats 4000000 in
set_option maxRecDepth 100000 in
theorem one_loose (A B : Option Addr) (n n' ca cb : Nat) (a u m f l a' u' f' l' : Int) (w : World) (hn : n ≤ 1000) (r : Bool) (hr : (decide (a = a') && (decide (u = u') && (decide (f = f') && (decide (l = l') && decide (n = n'))))) = r) :
    Calls Try.prog 16 #[.agg #[.slice A n ca, .int .i64 a, .int .i64 u, .int .i64 m, .int .i64 f, .int .i64 l], .agg #[.slice B n' cb, .int .i64 a', .int .i64 u', .int .i64 m, .int .i64 f', .int .i64 l'], .bool false] w fun e w' => e = .returned (.bool r) ∧ Below w.heap.size w w' := by
  have HX := Lib.hid ((Blk.new w 43 #[.slice A n ca, .int .i64 a, .int .i64 u, .int .i64 m, .int .i64 f, .int .i64 l]).alloc (.cells #[.slice B n' cb, .int .i64 a', .int .i64 u', .int .i64 m, .int .i64 f', .int .i64 l'] 43))
  have HY := Lib.hid (show Blk ((w.alloc (.cells #[.slice A n ca, .int .i64 a, .int .i64 u, .int .i64 m, .int .i64 f, .int .i64 l] 43)).alloc (.cells #[.slice B n' cb, .int .i64 a', .int .i64 u', .int .i64 m, .int .i64 f', .int .i64 l'] 43)) (w.heap.size + 1) 43 #[.slice B n' cb, .int .i64 a', .int .i64 u', .int .i64 m, .int .i64 f', .int .i64 l'] from by
    have := Blk.new (w.alloc (.cells #[.slice A n ca, .int .i64 a, .int .i64 u, .int .i64 m, .int .i64 f, .int .i64 l] 43)) 43 #[.slice B n' cb, .int .i64 a', .int .i64 u', .int .i64 m, .int .i64 f', .int .i64 l']
    simpa using this)
  have HBE := Lib.hid ((alloc1 w (.cells #[.slice A n ca, .int .i64 a, .int .i64 u, .int .i64 m, .int .i64 f, .int .i64 l] 43)).alloc (alloc1 w _).size (.cells #[.slice B n' cb, .int .i64 a', .int .i64 u', .int .i64 m, .int .i64 f', .int .i64 l'] 43))
  by_cases e1 : a = a'
  rotate_left
  · obtain rfl : r = false := by rw [← hr]; simp [e1]
    have d1 : (a == a') = false := by simpa using e1
    have d2 : (a != a') = true := by simpa using e1
    clear hr e1
    go_enter Try.func16, Try.ntmps16
    go_wp2_with fail
    go_ret
    exact ⟨rfl, HBE.out⟩
  subst e1
  by_cases e2 : u = u'
  rotate_left
  · obtain rfl : r = false := by rw [← hr]; simp [e2]
    have d1 : (u == u') = false := by simpa using e2
    have d2 : (u != u') = true := by simpa using e2
    clear hr e2
    go_enter Try.func16, Try.ntmps16
    go_wp2_with fail
    go_ret
    exact ⟨rfl, HBE.out⟩
  subst e2
  by_cases e3 : f = f'
  rotate_left
  · obtain rfl : r = false := by rw [← hr]; simp [e3]
    have d1 : (f == f') = false := by simpa using e3
    have d2 : (f != f') = true := by simpa using e3
    clear hr e3
    go_enter Try.func16, Try.ntmps16
    go_wp2_with fail
    go_ret
    exact ⟨rfl, HBE.out⟩
  subst e3
  by_cases e4 : l = l'
  rotate_left
  · obtain rfl : r = false := by rw [← hr]; simp [e4]
    have d1 : (l == l') = false := by simpa using e4
    have d2 : (l != l') = true := by simpa using e4
    clear hr e4
    go_enter Try.func16, Try.ntmps16
    go_wp2_with fail
    go_ret
    exact ⟨rfl, HBE.out⟩
  subst e4
  by_cases e5 : n = n'
  rotate_left
  · obtain rfl : r = false := by rw [← hr]; simp [e5]
    have d1 : ((n : Int) == (n' : Int)) = false := by simpa using (show ¬ (n : Int) = (n' : Int) by omega)
    have d2 : ¬ (n : Int) = (n' : Int) := by omega
    clear hr
    go_enter Try.func16, Try.ntmps16
    go_wp2_with fail
    go_ret
    exact ⟨rfl, HBE.out⟩
  subst e5
  obtain rfl : r = true := by rw [← hr]; simp
  clear hr
  go_enter Try.func16, Try.ntmps16
  go_wp2_with fail
  obtain ⟨w1, hw1⟩ : ∃ w1, (w.alloc (.cells #[.slice A n ca, .int .i64 a, .int .i64 u, .int .i64 m, .int .i64 f, .int .i64 l] 43)).alloc (.cells #[.slice B n cb, .int .i64 a, .int .i64 u, .int .i64 m, .int .i64 f, .int .i64 l] 43) = w1 := ⟨_, rfl⟩
  obtain ⟨Z, hZ⟩ : ∃ Z, w.heap.size = Z := ⟨_, rfl⟩
  rw [hw1] at HX HY HBE ⊢
  rw [hZ] at HX HY ⊢
  clear hw1 hZ
  go_loopw [7] (fun v wr => ∃ k : Nat, v = .int .i64 (k : Int) ∧ k ≤ n ∧ Below w1.heap.size w1 wr) (fun v _ => n - (intOf v).toNat)
  case atStart => exact ⟨0, rfl, by omega, Below.refl _ _⟩
  case round =>
    obtain ⟨k, rfl, hk, hb⟩ := hrel
    have HB1 := Lib.hid hb
    have hx := HX.out.below hb HX.out.lt
    have hy := HY.out.below hb HY.out.lt
    have x0 : wr.cell? ⟨Z, 0, none⟩ = some (.slice A n ca) := hx.cell 0
    have y0 : wr.cell? ⟨Z + 1, 0, none⟩ = some (.slice B n cb) := hy.cell 0
    have k0 : (0 : Int) ≤ (k : Int) := Int.natCast_nonneg _
    have HBW := Lib.hid (HBE.out.trans (hb.mono HBE.out.size))
    clear hx hy hb
    by_cases hlt : k < n
    · have k1 : (k : Int) < (n : Int) := by omega
      go_wp2_with fail
      go_quiet (fail)
      go_wp2_with fail
      go_roundw
      case rel => exact ⟨k + 1, by go_num, by omega, Later.drewN HB1.out nq⟩
      case measure => simp only [intOf]; omega
    · obtain rfl : k = n := by omega
      go_wp2_with fail
      go_ret
      exact ⟨rfl, HBW.out⟩
end Go.Proofs.Ytbdhbongaikphaa.BK
