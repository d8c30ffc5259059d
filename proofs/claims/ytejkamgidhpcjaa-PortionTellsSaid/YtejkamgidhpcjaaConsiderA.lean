/- The walks of consider: within, wrong, sure, check, price. -/
import Derived.Test.YtejkamgidhpcjaaConsiderMath
import Derived.Test.YtejkamgidhpcjaaPartIs
import Derived.Test.YtejkamgidhpcjaaRowF
namespace Go.Proofs.Ytejkamgidhpcjaa.CO
open Go.RowKit Go.Proofs.Ytejkamgidhpcjaa.Cents
set_option linter.unusedVariables false
set_option linter.unusedSimpArgs false

theorem alloc1 (w : World) (o : Obj) : Below w.heap.size w (w.alloc o) := (Below.refl _ _).alloc (Nat.le_refl _) _
def inB (n : Int) : Bool := decide (0 ≤ n) && decide (n ≤ 10000)
theorem within_any (n : Int) (w : World) (b : Bool) (hb : inB n = b) : Calls Try.prog 45 #[.int .i64 n] w fun e w' => e = .returned (.bool b) ∧ w = w' := by
  unfold inB at hb
  by_cases h : 0 ≤ n
  · have h1 : decide (0 ≤ n) = true := by simpa using h
    rw [h1, Bool.true_and] at hb
    have HB := Lib.hid hb
    clear hb h
    go_enter Try.func45, Try.ntmps45
    go_wp2_with fail
    go_ret
    exact ⟨by rw [← HB.out]; rfl, rfl⟩
  · have h1 : decide (0 ≤ n) = false := by simpa using h
    rw [h1, Bool.false_and] at hb
    have HB := Lib.hid hb
    clear hb h
    go_enter Try.func45, Try.ntmps45
    go_wp2_with fail
    go_ret
    exact ⟨by rw [← HB.out]; rfl, rfl⟩
theorem bad_in (m : Mb) : Mb.bad m = !inB m.ch := by
  unfold Mb.bad inB
  by_cases h1 : m.ch < 0 <;> by_cases h2 : 10000 < m.ch <;> simp [h1, h2] <;> omega
theorem wrong_any (a ch : Int) (w : World) (b : Bool) (hb : Mb.bad ⟨a, ch⟩ = b) : Calls Try.prog 47 #[.agg #[.int .i64 a, .int .i64 ch]] w fun e w' => e = .returned (.bool b) ∧ Below w.heap.size w w' := by
  have HB := Lib.hid (show inB ch = !b by rw [← hb, bad_in]; simp)
  clear hb
  go_enter Try.func47, Try.ntmps47
  go_wp2_with fail
  refine (within_any ch _ _ HB.out).mono ?_
  rintro e w1 ⟨rfl, rfl⟩
  go_wp2_with fail
  go_ret
  exact ⟨by simp, alloc1 _ _⟩
theorem sure_any (a ch b : Int) (w : World) (hb0 : 0 ≤ b) (hb1 : b ≤ 10000) (r : Bool) (hr : Mb.sure ⟨a, ch⟩ b = r) : Calls Try.prog 27 #[.agg #[.int .i64 a, .int .i64 ch], .int .i64 b] w fun e w' => e = .returned (.bool r) ∧ Below w.heap.size w w' := by
  unfold Mb.sure at hr
  by_cases h : a < 0
  · rw [if_pos h] at hr
    have HR := Lib.hid hr
    clear hr
    go_enter Try.func27, Try.ntmps27
    go_wp2_with fail
    go_ret
    exact ⟨by rw [← HR.out]; rfl, alloc1 _ _⟩
  · rw [if_neg h] at hr
    have HR := Lib.hid hr
    clear hr
    go_enter Try.func27, Try.ntmps27
    go_wp2_with fail
    go_ret
    exact ⟨by rw [← HR.out]; rfl, alloc1 _ _⟩

def mcells (xs : List Mb) : List Value := xs.flatMap Mb.cells
theorem mb_len (m : Mb) : m.cells.length = 2 := rfl
theorem mb_cells {w : World} {A : Option Addr} {xs : List Mb} (hr : Row w 0 A (mcells xs)) {j : Nat} (h : j < xs.length) :
    ∃ ad, A = some ad ∧ w.cell? (ad.add (j * 2)) = some (.int .i64 xs[j].a) ∧ w.cell? ⟨(ad.add (j * 2)).block, (ad.add (j * 2)).off + 1, none⟩ = some (.int .i64 xs[j].ch) := by
  obtain ⟨ad, e, _, h0, hi⟩ := Row.elem mb_len (by omega) hr h
  exact ⟨ad, e, h0 _ rfl, hi 1 _ (by omega) rfl⟩
theorem take_any {xs : List Mb} {j : Nat} (h : j < xs.length) : anyW (xs.take (j + 1)) = (anyW (xs.take j) || Mb.bad xs[j]) := by
  unfold anyW
  rw [List.take_succ_eq_append_getElem h, List.any_append]
  simp
def IxRet (w : World) (b : Bool) (e : Ending) (w' : World) : Prop := ∃ r : Int, e = .returned (.int .i64 r) ∧ decide (0 ≤ r) = b ∧ Below w.heap.size w w'
set_option maxHeartbeats 1000000 in
set_option maxRecDepth 100000 in
theorem index_any (A : Option Addr) (xs : List Mb) (c : Nat) (w : World) (hr : Row w 0 A (mcells xs)) (hl : xs.length * 16 ≤ 140737488351232) (b : Bool) (hb : anyW xs = b) :
    Calls Try.prog 53 #[.slice A xs.length c, .func (.func 47) #[] #[]] w (IxRet w b) := by
  have HR := Lib.hid hr
  have HB := Lib.hid hb
  obtain ⟨n, hn⟩ : ∃ n, xs.length = n := ⟨_, rfl⟩
  rw [hn] at hl ⊢
  have HN := Lib.hid hn
  clear hr hb hn
  go_enter Try.func53, Try.ntmps53
  go_wp2_with fail
  go_loopw [8] (fun v wr => ∃ (k : Nat), v = .int .i64 (k : Int) ∧ k ≤ n ∧ anyW (xs.take k) = false ∧ Below w.heap.size w wr) (fun v _ => n - (intOf v).toNat)
  case atStart => exact ⟨0, rfl, by omega, by simp [anyW], Below.refl _ _⟩
  case round =>
    obtain ⟨k, rfl, hk, hany, hbe⟩ := hrel
    by_cases hlt : k < n
    · obtain ⟨ad, rfl, c0, c1⟩ := mb_cells (HR.out.below hbe) (j := k) (by rw [HN.out]; exact hlt)
      have hta := take_any (xs := xs) (j := k) (by rw [HN.out]; exact hlt)
      obtain ⟨m, hm⟩ : ∃ m, m = xs[k]'(by rw [HN.out]; exact hlt) := ⟨_, rfl⟩
      rw [← hm] at c0 c1 hta
      obtain ⟨a, ch⟩ := m
      dsimp only at c0 c1
      rw [hany, Bool.false_or] at hta
      have HT := Lib.hid hta
      have HBE := Lib.hid hbe
      have HM := Lib.hid hm
      have g0 : (0 : Int) ≤ (k : Int) := Int.natCast_nonneg _
      have g1 : (k : Int) < (n : Int) := by omega
      clear hany hta hbe hm
      cases hbd : Mb.bad ⟨a, ch⟩ with
      | true =>
        have HBD := Lib.hid hbd
        clear hbd
        go_wp2_with fail
        refine (wrong_any a ch _ true HBD.out).mono ?_
        rintro e w2 ⟨rfl, hb2⟩
        have HB2 := Lib.hid (HBE.out.trans (hb2.mono HBE.out.size))
        clear hb2
        go_wp2_with fail
        go_ret
        refine ⟨_, rfl, ?_, HB2.out⟩
        have hx : anyW xs = true := by
          unfold anyW
          rw [List.any_eq_true]
          exact ⟨_, List.getElem_mem (by rw [HN.out]; exact hlt), by rw [← HM.out]; exact HBD.out⟩
        rw [← HB.out, hx]; simp
      | false =>
        have HBD := Lib.hid hbd
        clear hbd
        go_wp2_with fail
        refine (wrong_any a ch _ false HBD.out).mono ?_
        rintro e w2 ⟨rfl, hb2⟩
        have HB2 := Lib.hid (HBE.out.trans (hb2.mono HBE.out.size))
        clear hb2
        go_wp2_with fail
        go_roundw
        case rel => exact ⟨k + 1, by go_num, by omega, by rw [HT.out]; exact HBD.out, HB2.out⟩
        case measure => simp only [intOf]; omega
    · obtain rfl : k = n := by omega
      have HBE := Lib.hid hbe
      have HF := Lib.hid (show anyW xs = false by rw [← hany, List.take_of_length_le (by rw [HN.out]; omega)])
      clear hbe hany
      go_wp2_with fail
      go_ret
      exact ⟨_, rfl, by rw [← HB.out, HF.out]; rfl, HBE.out⟩
theorem contains_any (A : Option Addr) (xs : List Mb) (c : Nat) (w : World) (hr : Row w 0 A (mcells xs)) (hl : xs.length * 16 ≤ 140737488351232) (b : Bool) (hb : anyW xs = b) :
    Calls Try.prog 46 #[.slice A xs.length c, .func (.func 47) #[] #[]] w fun e w' => e = .returned (.bool b) ∧ Below w.heap.size w w' := by
  have HI := Lib.hid (index_any A xs c w hr hl b hb)
  generalize xs.length = n at *
  clear hr hl hb
  go_enter Try.func46, Try.ntmps46
  go_wp2_with fail
  refine HI.out.mono ?_
  rintro e w1 ⟨r, rfl, hr, hb1⟩
  have HR := Lib.hid hr
  have HB1 := Lib.hid hb1
  clear hr hb1
  go_wp2_with fail
  go_ret
  exact ⟨by rw [← HR.out]; rfl, HB1.out⟩
end Go.Proofs.Ytejkamgidhpcjaa.CO
