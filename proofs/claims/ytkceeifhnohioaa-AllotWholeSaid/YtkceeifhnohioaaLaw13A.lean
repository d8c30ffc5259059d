/- The walk of the law AllotAgain. -/
import Derived.Test.YtkceeifhnohioaaAllotD
import Derived.Test.YtkceeifhnohioaaAllotMath
namespace Go.Proofs.Ytkceeifhnohioaa.PO
open Go.RowKit Go.Proofs.Ytkceeifhnohioaa.Cents Go.Proofs.Ytkceeifhnohioaa.CO Go.Proofs.Ytkceeifhnohioaa.Exact
set_option linter.unusedVariables false
set_option linter.unusedSimpArgs false

theorem below_inA {w w1 w2 : World} (h : Below w.heap.size w w1) (k : Below w1.heap.size w1 w2) : Below w.heap.size w w2 := h.trans (k.mono h.size)
theorem agL_out (p more : Int) (A : Option Addr) (n c : Nat) (w : World) (h : 70 < n ∨ more < 0) (hn : n ≤ 140737488351232) :
    Calls Try.prog 6 #[.int .i64 p, .int .i64 more, .slice A n c] w fun e w' => e = .returned (.bool true) ∧ Below w.heap.size w w' := by
  have h1 : ¬ 70 < n → more < 0 := fun q => h.resolve_left q
  clear h
  by_cases hn2 : 70 < n
  · have hn3 : (70 : Int) < (n : Int) := by omega
    go_enter Try.func6, Try.ntmps6
    go_wp2_with fail
    refine (awake13 _).mono ?_
    rintro e w1 ⟨rfl, hb⟩
    have HB := Lib.hid hb
    clear hb
    go_wp2_with fail
    go_ret
    exact ⟨rfl, HB.out⟩
  · have h2 := h1 hn2
    have hn3 : ¬ (70 : Int) < (n : Int) := by omega
    go_enter Try.func6, Try.ntmps6
    go_wp2_with fail
    refine (awake13 _).mono ?_
    rintro e w1 ⟨rfl, hb⟩
    have HB := Lib.hid hb
    clear hb
    go_wp2_with fail
    go_ret
    exact ⟨rfl, HB.out⟩
theorem agL_bad (p more : Int) (A : Option Addr) (al : List Int) (c : Nat) (w : World) (hp : I64 p) (hm : 0 ≤ more) (hx : ∀ x ∈ al, I64 x) (hr : Row w 0 A (ints al)) (hl : al.length ≤ 70) (hE : allE p al ≠ 0) :
    Calls Try.prog 6 #[.int .i64 p, .int .i64 more, .slice A al.length c] w fun e w' => e = .returned (.bool true) ∧ Below w.heap.size w w' := by
  have HR := Lib.hid hr
  have HO := Lib.hid (fun w1 (h : Row w1 0 A (ints al)) => all_is p A al c w1 hp hx h (by omega) [] (allE p al) ⟨all_bad0 hE, rfl⟩)
  generalize allE p al = E at *
  generalize al.length = n at *
  have hn2 : ¬ (70 : Int) < (n : Int) := by omega
  have hm2 : ¬ more < 0 := by omega
  clear hp hx hr
  go_enter Try.func6, Try.ntmps6
  go_wp2_with fail
  refine (awake13 _).mono ?_
  rintro e w1 ⟨rfl, hb⟩
  have HB := Lib.hid hb
  clear hb
  go_wp2_with fail
  refine (HO.out _ (HR.out.below HB.out)).mono ?_
  rintro e w2 ⟨B, d, rfl, _, _, hb⟩
  have HB := Lib.hid (below_inA HB.out hb)
  clear hb
  go_wp2_with fail
  go_ret
  exact ⟨rfl, HB.out⟩
set_option maxHeartbeats 1000000 in
set_option maxRecDepth 100000 in
theorem agL_ok (p more : Int) (A : Option Addr) (al : List Int) (c : Nat) (w : World) (hp : I64 p) (hmI : I64 more) (hm : 0 ≤ more) (hx : ∀ x ∈ al, I64 x) (hr : Row w 0 A (ints al)) (hl : al.length ≤ 70) (hE : allE p al = 0) :
    Calls Try.prog 6 #[.int .i64 p, .int .i64 more, .slice A al.length c] w fun e w' => e = .returned (.bool true) ∧ Below w.heap.size w w' := by
  have HR := Lib.hid hr
  have HO := Lib.hid (fun w1 (h : Row w1 0 A (ints al)) => all_is p A al c w1 hp hx h (by omega) (allV p al) 0 ⟨rfl, hE⟩)
  have hst := again_stay hp hE
  have hmo := fun h2 => again_more (more := more) hp hE hm h2
  have hvI := all_I (al := al) hp
  have hvl := (all_sum hE).1
  have hbad := fun h2 => again_bad0 (t := p + more) (d := allV p al) (al := al) h2
  have hgI := fun h2 => (again_sum (t := p + more) (d := allV p al) (al := al) h2).2.2
  generalize allV p al = V at *
  have HAG := Lib.hid (fun B d w1 (h1 : Row w1 0 B (ints V)) (h2 : Row w1 0 A (ints al)) => again_is p B A V al d c w1 hp (by omega) (by omega) hvI hx h1 h2 V 0 ⟨hst.2, hst.1⟩)
  have HSM := Lib.hid (fun B1 B2 d1 d2 w1 (h1 : Row w1 0 B1 (ints V)) (h2 : Row w1 0 B2 (ints V)) => same_any B1 B2 V V d1 d2 w1 h1 h2 (by omega) (by omega) true (by simp))
  by_cases hs : I64 (p + more)
  · have HAD := Lib.hid (fun W => add_is p more W hp hmI (p + more) 0 (by unfold fitN fitE; rw [if_pos hs, if_pos hs]; exact ⟨rfl, rfl⟩))
    by_cases hE2 : againE (p + more) V al = 0
    · have HA2 := Lib.hid (fun B d w1 (h1 : Row w1 0 B (ints V)) (h2 : Row w1 0 A (ints al)) => again_is (p + more) B A V al d c w1 hs (by omega) (by omega) hvI hx h1 h2 (againV (p + more) V al) 0 ⟨rfl, hE2⟩)
      obtain ⟨hul, hmo⟩ := hmo hE2
      generalize againV (p + more) V al = U at *
      obtain ⟨n, hn⟩ : ∃ n, al.length = n := ⟨_, rfl⟩
      rw [hn] at HO HAG HA2 hl hmo hvl hul ⊢
      rw [hvl] at HAG HSM HA2
      have HUL := Lib.hid hul
      have HVL := Lib.hid hvl
      have HMO := Lib.hid hmo
      have hn2 : ¬ (70 : Int) < (n : Int) := by omega
      have hm2 : ¬ more < 0 := by omega
      clear hp hx hr hE hE2 hgI hbad hvI hst hs hmI hn hul hvl hmo hm
      go_enter Try.func6, Try.ntmps6
      go_wp2_with fail
      refine (awake13 _).mono ?_
      rintro e w1 ⟨rfl, hb⟩
      have HB := Lib.hid hb
      clear hb
      go_wp2_with fail
      refine (HO.out _ (HR.out.below HB.out)).mono ?_
      rintro e w2 ⟨B, d, rfl, hrv, _, hb⟩
      rw [HVL.out]
      have HB := Lib.hid (below_inA HB.out hb)
      have HRV := Lib.hid (hrv.weak (Nat.zero_le _))
      clear hb hrv
      go_wp2_with fail
      refine (HAG.out _ _ _ HRV.out (HR.out.below HB.out)).mono ?_
      rintro e w3 ⟨B3, d3, rfl, hrv, _, hb⟩
      rw [HVL.out]
      have HB := Lib.hid (below_inA HB.out hb)
      have HRV := Lib.hid (HRV.out.below hb)
      have HRB := Lib.hid (hrv.weak (Nat.zero_le _))
      clear hb hrv
      go_wp2_with fail
      refine (HSM.out _ _ _ _ _ HRV.out HRB.out).mono ?_
      rintro e w4 ⟨rfl, hb⟩
      have HB := Lib.hid (below_inA HB.out hb)
      have HRV := Lib.hid (HRV.out.below hb)
      clear hb HRB
      go_wp2_with fail
      refine (HAD.out _).mono ?_
      rintro e w5 ⟨rfl, rfl⟩
      go_wp2_with fail
      refine (HA2.out _ _ _ HRV.out (HR.out.below HB.out)).mono ?_
      rintro e w6 ⟨B6, d6, rfl, hrv, _, hb⟩
      rw [HUL.out]
      have HB := Lib.hid (below_inA HB.out hb)
      have HRV := Lib.hid (HRV.out.below hb)
      have HRU := Lib.hid (hrv.weak (Nat.zero_le _))
      clear hb hrv
      go_wp2_with fail
      go_loopw [69] (fun i wr => ∃ k : Nat, i = .int .i64 (k : Int) ∧ k ≤ n ∧ Below w.heap.size w wr ∧ Row wr 0 B (ints V) ∧ Row wr 0 B6 (ints U)) (fun i _ => n - (intOf i).toNat)
      case atStart => exact ⟨0, rfl, by omega, HB.out, HRV.out, HRU.out⟩
      case round =>
        clear HB HRV HRU
        obtain ⟨k, rfl, hk, hb, hrv, hru⟩ := hrel
        have HB := Lib.hid hb
        have HRV := Lib.hid hrv
        have HRU := Lib.hid hru
        clear hb hrv hru
        have g0 : (0 : Int) ≤ (k : Int) := Int.natCast_nonneg _
        by_cases hlt : k < n
        · obtain ⟨ad, rfl, c0⟩ := int_cell HRV.out (j := k) (by rw [HVL.out]; exact hlt)
          obtain ⟨bd, rfl, c1⟩ := int_cell HRU.out (j := k) (by rw [HUL.out]; exact hlt)
          have g1 : (k : Int) < (n : Int) := by omega
          have hle := HMO.out k hlt
          generalize V.getD k 0 = x at *
          generalize U.getD k 0 = y at *
          have hle2 : ¬ y < x := by omega
          go_wp2_with fail
          go_quiet (fail)
          go_wp2_with fail
          go_roundw
          case rel => exact ⟨k + 1, by go_num, by omega, below_inA HB.out (Quiet.below ⟨nq, rfl⟩), HRV.out.drewN nq, HRU.out.drewN nq⟩
          case measure => simp [intOf]; omega
        · obtain rfl : k = n := by omega
          go_wp2_with fail
          go_ret
          exact ⟨rfl, HB.out⟩
    · have HA2 := Lib.hid (fun B d w1 (h1 : Row w1 0 B (ints V)) (h2 : Row w1 0 A (ints al)) => again_is (p + more) B A V al d c w1 hs (by omega) (by omega) hvI hx h1 h2 [] (againE (p + more) V al) ⟨hbad hE2, rfl⟩)
      clear hmo
      generalize againE (p + more) V al = E2 at *
      obtain ⟨n, hn⟩ : ∃ n, al.length = n := ⟨_, rfl⟩
      rw [hn] at HO HAG HA2 hl hvl ⊢
      rw [hvl] at HAG HSM HA2
      have HVL := Lib.hid hvl
      have hn2 : ¬ (70 : Int) < (n : Int) := by omega
      have hm2 : ¬ more < 0 := by omega
      have hE3 : ¬ E2 = 0 := hE2
      clear hE2 hp hx hr hE hgI hbad hvI hst hs hmI hn hvl hm
      go_enter Try.func6, Try.ntmps6
      go_wp2_with fail
      refine (awake13 _).mono ?_
      rintro e w1 ⟨rfl, hb⟩
      have HB := Lib.hid hb
      clear hb
      go_wp2_with fail
      refine (HO.out _ (HR.out.below HB.out)).mono ?_
      rintro e w2 ⟨B, d, rfl, hrv, _, hb⟩
      rw [HVL.out]
      have HB := Lib.hid (below_inA HB.out hb)
      have HRV := Lib.hid (hrv.weak (Nat.zero_le _))
      clear hb hrv
      go_wp2_with fail
      refine (HAG.out _ _ _ HRV.out (HR.out.below HB.out)).mono ?_
      rintro e w3 ⟨B3, d3, rfl, hrv, _, hb⟩
      rw [HVL.out]
      have HB := Lib.hid (below_inA HB.out hb)
      have HRV := Lib.hid (HRV.out.below hb)
      have HRB := Lib.hid (hrv.weak (Nat.zero_le _))
      clear hb hrv
      go_wp2_with fail
      refine (HSM.out _ _ _ _ _ HRV.out HRB.out).mono ?_
      rintro e w4 ⟨rfl, hb⟩
      have HB := Lib.hid (below_inA HB.out hb)
      have HRV := Lib.hid (HRV.out.below hb)
      clear hb HRB
      go_wp2_with fail
      refine (HAD.out _).mono ?_
      rintro e w5 ⟨rfl, rfl⟩
      go_wp2_with fail
      refine (HA2.out _ _ _ HRV.out (HR.out.below HB.out)).mono ?_
      rintro e w6 ⟨B6, d6, rfl, hrv, _, hb⟩
      rw [List.length_nil]
      have HB := Lib.hid (below_inA HB.out hb)
      have HRV := Lib.hid (HRV.out.below hb)
      have HRU := Lib.hid (hrv.weak (Nat.zero_le _))
      clear hb hrv
      go_wp2_with fail
      go_ret
      exact ⟨rfl, HB.out⟩
  · have HAD := Lib.hid (fun W => add_is p more W hp hmI 0 3 (by unfold fitN fitE; rw [if_neg hs, if_neg hs]; exact ⟨rfl, rfl⟩))
    have HA2 := Lib.hid (fun B d w1 (h1 : Row w1 0 B (ints V)) (h2 : Row w1 0 A (ints al)) => again_is 0 B A V al d c w1 ⟨by decide, by decide⟩ (by omega) (by omega) hvI hx h1 h2 (againV 0 V al) (againE 0 V al) ⟨rfl, rfl⟩)
    clear hmo hgI hbad
    generalize againE 0 V al = E2 at *
    generalize againV 0 V al = U at *
    obtain ⟨n, hn⟩ : ∃ n, al.length = n := ⟨_, rfl⟩
    rw [hn] at HO HAG HA2 hl hvl ⊢
    rw [hvl] at HAG HSM HA2
    have HVL := Lib.hid hvl
    have hn2 : ¬ (70 : Int) < (n : Int) := by omega
    have hm2 : ¬ more < 0 := by omega
    clear hp hx hr hE hvI hst hs hmI hn hvl hm
    go_enter Try.func6, Try.ntmps6
    go_wp2_with fail
    refine (awake13 _).mono ?_
    rintro e w1 ⟨rfl, hb⟩
    have HB := Lib.hid hb
    clear hb
    go_wp2_with fail
    refine (HO.out _ (HR.out.below HB.out)).mono ?_
    rintro e w2 ⟨B, d, rfl, hrv, _, hb⟩
    rw [HVL.out]
    have HB := Lib.hid (below_inA HB.out hb)
    have HRV := Lib.hid (hrv.weak (Nat.zero_le _))
    clear hb hrv
    go_wp2_with fail
    refine (HAG.out _ _ _ HRV.out (HR.out.below HB.out)).mono ?_
    rintro e w3 ⟨B3, d3, rfl, hrv, _, hb⟩
    rw [HVL.out]
    have HB := Lib.hid (below_inA HB.out hb)
    have HRV := Lib.hid (HRV.out.below hb)
    have HRB := Lib.hid (hrv.weak (Nat.zero_le _))
    clear hb hrv
    go_wp2_with fail
    refine (HSM.out _ _ _ _ _ HRV.out HRB.out).mono ?_
    rintro e w4 ⟨rfl, hb⟩
    have HB := Lib.hid (below_inA HB.out hb)
    have HRV := Lib.hid (HRV.out.below hb)
    clear hb HRB
    go_wp2_with fail
    refine (HAD.out _).mono ?_
    rintro e w5 ⟨rfl, rfl⟩
    go_wp2_with fail
    refine (HA2.out _ _ _ HRV.out (HR.out.below HB.out)).mono ?_
    rintro e w6 ⟨B6, d6, rfl, hrv, _, hb⟩
    have HB := Lib.hid (below_inA HB.out hb)
    have HRV := Lib.hid (HRV.out.below hb)
    have HRU := Lib.hid (hrv.weak (Nat.zero_le _))
    clear hb hrv
    go_wp2_with fail
    go_ret
    exact ⟨rfl, HB.out⟩
theorem againL_walk (p more : Int) (A : Option Addr) (al : List Int) (c : Nat) (w : World) (hp : I64 p) (hm : I64 more) (hx : ∀ x ∈ al, I64 x) (hr : Row w 0 A (ints al)) (hl : al.length * 8 ≤ 140737488351232) :
    Calls Try.prog 6 #[.int .i64 p, .int .i64 more, .slice A al.length c] w fun e w' => e = .returned (.bool true) ∧ Below w.heap.size w w' := by
  by_cases h : 70 < al.length ∨ more < 0
  · exact agL_out p more A al.length c w h (by omega)
  · by_cases hE : allE p al = 0
    · exact agL_ok p more A al c w hp hm (by omega) hx hr (by omega) hE
    · exact agL_bad p more A al c w hp (by omega) hx hr (by omega) hE
end Go.Proofs.Ytkceeifhnohioaa.PO
