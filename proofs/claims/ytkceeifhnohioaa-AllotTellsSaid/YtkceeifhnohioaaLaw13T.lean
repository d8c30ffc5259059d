/- The walk of the law AllotTells. -/
import Derived.Test.YtkceeifhnohioaaAllotT
namespace Go.Proofs.Ytkceeifhnohioaa.PO
open Go.RowKit Go.Proofs.Ytkceeifhnohioaa.Cents Go.Proofs.Ytkceeifhnohioaa.CO Go.Proofs.Ytkceeifhnohioaa.Exact
set_option linter.unusedVariables false
set_option linter.unusedSimpArgs false

theorem tL_out1 (p : Int) (A D W : Option Addr) (n k m c cd d : Nat) (w : World) (h : 70 < n) (hn : n ≤ 140737488351232) (hk : k ≤ 140737488351232) (hm : m ≤ 140737488351232) :
    Calls Try.prog 3 #[.int .i64 p, .slice A n c, .slice D k cd, .slice W m d] w fun e w' => e = .returned (.bool true) ∧ Below w.heap.size w w' := by
  have h2 : (70 : Int) < (n : Int) := by omega
  go_enter Try.func3, Try.ntmps3
  go_wp2_with fail
  refine (awake13 _).mono ?_
  rintro e w1 ⟨rfl, hb⟩
  have HB := Lib.hid hb
  clear hb
  go_wp2_with fail
  go_ret
  exact ⟨rfl, HB.out⟩
theorem tL_out2 (p : Int) (A D W : Option Addr) (n k m c cd d : Nat) (w : World) (h : ¬ 70 < n) (h' : 70 < k) (hn : n ≤ 140737488351232) (hk : k ≤ 140737488351232) (hm : m ≤ 140737488351232) :
    Calls Try.prog 3 #[.int .i64 p, .slice A n c, .slice D k cd, .slice W m d] w fun e w' => e = .returned (.bool true) ∧ Below w.heap.size w w' := by
  have h2 : ¬ (70 : Int) < (n : Int) := by omega
  have h3 : (70 : Int) < (k : Int) := by omega
  go_enter Try.func3, Try.ntmps3
  go_wp2_with fail
  refine (awake13 _).mono ?_
  rintro e w1 ⟨rfl, hb⟩
  have HB := Lib.hid hb
  clear hb
  go_wp2_with fail
  go_ret
  exact ⟨rfl, HB.out⟩
theorem tL_out3 (p : Int) (A D W : Option Addr) (n k m c cd d : Nat) (w : World) (h : ¬ 70 < n) (h' : ¬ 70 < k) (h'' : 70 < m) (hn : n ≤ 140737488351232) (hk : k ≤ 140737488351232) (hm : m ≤ 140737488351232) :
    Calls Try.prog 3 #[.int .i64 p, .slice A n c, .slice D k cd, .slice W m d] w fun e w' => e = .returned (.bool true) ∧ Below w.heap.size w w' := by
  have h2 : ¬ (70 : Int) < (n : Int) := by omega
  have h3 : ¬ (70 : Int) < (k : Int) := by omega
  have h4 : (70 : Int) < (m : Int) := by omega
  go_enter Try.func3, Try.ntmps3
  go_wp2_with fail
  refine (awake13 _).mono ?_
  rintro e w1 ⟨rfl, hb⟩
  have HB := Lib.hid hb
  clear hb
  go_wp2_with fail
  go_ret
  exact ⟨rfl, HB.out⟩
theorem below_inT {w w1 w2 : World} (h : Below w.heap.size w w1) (k : Below w1.heap.size w1 w2) : Below w.heap.size w w2 := h.trans (k.mono h.size)
theorem rsome_any (p : Int) (A W : Option Addr) (al wh : List Int) (c d : Nat) (w : World) (hp : I64 p) (hxa : ∀ x ∈ al, I64 x) (hxw : ∀ x ∈ wh, I64 x) (hra : Row w 0 A (ints al)) (hrw : Row w 0 W (ints wh)) (hl : al.length ≤ 70) (hm : wh.length ≤ 70) :
    Calls Try.prog 11 #[.int .i64 p, .slice A al.length c, .slice W wh.length d] w (RetL w (someV p al wh) (someE p al wh)) := by
  by_cases h : someG p al wh
  · exact rsome_good p A W al wh c d w h hp hxa hra hrw hl hm
  · exact rsome_bad p A W al wh c d w h hxw hra hrw hl hm
set_option maxHeartbeats 4000000 in
set_option maxRecDepth 100000 in
theorem tL_in (p : Int) (A : Option Addr) (al : List Int) (c : Nat) (D : Option Addr) (dn : List Int) (cd : Nat) (W : Option Addr) (wh : List Int) (d : Nat) (w : World) (hp : I64 p) (hx : ∀ x ∈ al, I64 x) (hr : Row w 0 A (ints al)) (hl : al.length ≤ 70) (hxd : ∀ x ∈ dn, I64 x) (hrd : Row w 0 D (ints dn)) (hd : dn.length ≤ 70) (hxw : ∀ x ∈ wh, I64 x) (hrw : Row w 0 W (ints wh)) (hm : wh.length ≤ 70) :
    Calls Try.prog 3 #[.int .i64 p, .slice A al.length c, .slice D dn.length cd, .slice W wh.length d] w fun e w' => e = .returned (.bool true) ∧ Below w.heap.size w w' := by
  have HR := Lib.hid hr
  have HRD := Lib.hid hrd
  have HRW := Lib.hid hrw
  have C1 := Lib.hid (fun w1 (h : Row w1 0 A (ints al)) => all_is p A al c w1 hp hx h (by omega) (allV p al) (allE p al) ⟨rfl, rfl⟩)
  have C2 := Lib.hid (fun w1 (h : Row w1 0 A (ints al)) => rall_any p A al c w1 hp hx h hl)
  have C3 := Lib.hid (fun w1 (h : Row w1 0 A (ints al)) (h' : Row w1 0 W (ints wh)) => some_is p A W al wh c d w1 hp hx h h' (by omega) (by omega) (someV p al wh) (someE p al wh) ⟨rfl, rfl⟩)
  have C4 := Lib.hid (fun w1 (h : Row w1 0 A (ints al)) (h' : Row w1 0 W (ints wh)) => rsome_any p A W al wh c d w1 hp hx hxw h h' hl hm)
  have C5 := Lib.hid (fun w1 (h : Row w1 0 A (ints al)) => disc_is p A al c w1 hp (by omega) hx h (fitN (al.sum - p)) (fitE (al.sum - p)) ⟨rfl, rfl⟩)
  have C6 := Lib.hid (fun w1 (h : Row w1 0 A (ints al)) => rdisc_is p A al c w1 hp hl hx h (fitN (al.sum - p)) (fitE (al.sum - p)) ⟨rfl, rfl⟩)
  have C7 := Lib.hid (fun w1 (h : Row w1 0 D (ints dn)) (h' : Row w1 0 A (ints al)) => again_is p D A dn al cd c w1 hp (by omega) (by omega) hxd hx h h' (againV p dn al) (againE p dn al) ⟨rfl, rfl⟩)
  have C8 := Lib.hid (fun w1 (h : Row w1 0 D (ints dn)) (h' : Row w1 0 A (ints al)) => ragain_any p D A dn al cd c w1 hp hd hl hxd hx h h')
  have L1 : (allV p al).length ≤ 1000000 := by
    by_cases h : allE p al = 0
    · rw [(all_sum h).1]; omega
    · rw [all_bad0 h]; simp
  have L2 : (someV p al wh).length ≤ 1000000 := by
    by_cases h : someE p al wh = 0
    · rw [(some_sum h hx).1]; omega
    · rw [some_bad0 h]; simp
  have L3 : (againV p dn al).length ≤ 1000000 := by
    by_cases h : againE p dn al = 0
    · rw [(again_sum h).1]; omega
    · rw [again_bad0 h]; simp
  generalize allE p al = E1 at *
  generalize someE p al wh = E2 at *
  generalize againE p dn al = E3 at *
  generalize allV p al = V1 at *
  generalize someV p al wh = V2 at *
  generalize againV p dn al = V3 at *
  generalize fitN (al.sum - p) = N4 at *
  generalize fitE (al.sum - p) = E4 at *
  have S1 := Lib.hid (fun A B c d w (h : Row w 0 A (ints V1)) (h' : Row w 0 B (ints V1)) => same_any A B V1 V1 c d w h h' L1 L1 true (by simp))
  have S2 := Lib.hid (fun A B c d w (h : Row w 0 A (ints V2)) (h' : Row w 0 B (ints V2)) => same_any A B V2 V2 c d w h h' L2 L2 true (by simp))
  have S3 := Lib.hid (fun A B c d w (h : Row w 0 A (ints V3)) (h' : Row w 0 B (ints V3)) => same_any A B V3 V3 c d w h h' L3 L3 true (by simp))
  generalize al.length = n at *
  generalize wh.length = m at *
  generalize dn.length = k at *
  have g1 : ¬ (70 : Int) < (n : Int) := by omega
  have g2 : ¬ (70 : Int) < (k : Int) := by omega
  have g3 : ¬ (70 : Int) < (m : Int) := by omega
  clear hp hx hr hxd hrd hxw hrw
  go_enter Try.func3, Try.ntmps3
  go_wp2_with fail
  refine (awake13 _).mono ?_
  rintro e w1 ⟨rfl, hb⟩
  have HB := Lib.hid hb
  clear hb
  go_wp2_with fail
  refine (C1.out _ (HR.out.below HB.out)).mono ?_
  rintro e w2 ⟨B2, d2, rfl, hr, _, hb⟩
  have HB := Lib.hid (below_inT HB.out hb)
  have R2 := Lib.hid (hr.weak (Nat.zero_le _))
  clear hr
  clear hb
  go_wp2_with fail
  refine (C2.out _ (HR.out.below HB.out)).mono ?_
  rintro e w3 ⟨B3, d3, rfl, hr, _, hb⟩
  have HB := Lib.hid (below_inT HB.out hb)
  have R2 := Lib.hid (R2.out.below hb)
  have R3 := Lib.hid (hr.weak (Nat.zero_le _))
  clear hr
  clear hb
  go_wp2_with fail
  refine (C3.out _ (HR.out.below HB.out) (HRW.out.below HB.out)).mono ?_
  rintro e w4 ⟨B4, d4, rfl, hr, _, hb⟩
  have HB := Lib.hid (below_inT HB.out hb)
  have R2 := Lib.hid (R2.out.below hb)
  have R3 := Lib.hid (R3.out.below hb)
  have R4 := Lib.hid (hr.weak (Nat.zero_le _))
  clear hr
  clear hb
  go_wp2_with fail
  refine (C4.out _ (HR.out.below HB.out) (HRW.out.below HB.out)).mono ?_
  rintro e w5 ⟨B5, d5, rfl, hr, _, hb⟩
  have HB := Lib.hid (below_inT HB.out hb)
  have R2 := Lib.hid (R2.out.below hb)
  have R3 := Lib.hid (R3.out.below hb)
  have R4 := Lib.hid (R4.out.below hb)
  have R5 := Lib.hid (hr.weak (Nat.zero_le _))
  clear hr
  clear hb
  go_wp2_with fail
  refine (C5.out _ (HR.out.below HB.out)).mono ?_
  rintro e w6 ⟨rfl, hb⟩
  have HB := Lib.hid (below_inT HB.out hb)
  have R2 := Lib.hid (R2.out.below hb)
  have R3 := Lib.hid (R3.out.below hb)
  have R4 := Lib.hid (R4.out.below hb)
  have R5 := Lib.hid (R5.out.below hb)
  clear hb
  go_wp2_with fail
  refine (C6.out _ (HR.out.below HB.out)).mono ?_
  rintro e w7 ⟨rfl, hb⟩
  have HB := Lib.hid (below_inT HB.out hb)
  have R2 := Lib.hid (R2.out.below hb)
  have R3 := Lib.hid (R3.out.below hb)
  have R4 := Lib.hid (R4.out.below hb)
  have R5 := Lib.hid (R5.out.below hb)
  clear hb
  go_wp2_with fail
  refine (C7.out _ (HRD.out.below HB.out) (HR.out.below HB.out)).mono ?_
  rintro e w8 ⟨B8, d8, rfl, hr, _, hb⟩
  have HB := Lib.hid (below_inT HB.out hb)
  have R2 := Lib.hid (R2.out.below hb)
  have R3 := Lib.hid (R3.out.below hb)
  have R4 := Lib.hid (R4.out.below hb)
  have R5 := Lib.hid (R5.out.below hb)
  have R8 := Lib.hid (hr.weak (Nat.zero_le _))
  clear hr
  clear hb
  go_wp2_with fail
  refine (C8.out _ (HRD.out.below HB.out) (HR.out.below HB.out)).mono ?_
  rintro e w9 ⟨B9, d9, rfl, hr, _, hb⟩
  have HB := Lib.hid (below_inT HB.out hb)
  have R2 := Lib.hid (R2.out.below hb)
  have R3 := Lib.hid (R3.out.below hb)
  have R4 := Lib.hid (R4.out.below hb)
  have R5 := Lib.hid (R5.out.below hb)
  have R8 := Lib.hid (R8.out.below hb)
  have R9 := Lib.hid (hr.weak (Nat.zero_le _))
  clear hr
  clear hb
  go_wp2_with fail
  refine (S1.out _ _ _ _ _ R2.out R3.out).mono ?_
  rintro e w10 ⟨rfl, hb⟩
  have HB := Lib.hid (below_inT HB.out hb)
  have R4 := Lib.hid (R4.out.below hb)
  have R5 := Lib.hid (R5.out.below hb)
  have R8 := Lib.hid (R8.out.below hb)
  have R9 := Lib.hid (R9.out.below hb)
  clear hb
  go_wp2_with fail
  refine (S2.out _ _ _ _ _ R4.out R5.out).mono ?_
  rintro e w11 ⟨rfl, hb⟩
  have HB := Lib.hid (below_inT HB.out hb)
  have R8 := Lib.hid (R8.out.below hb)
  have R9 := Lib.hid (R9.out.below hb)
  clear hb
  go_wp2_with fail
  refine (S3.out _ _ _ _ _ R8.out R9.out).mono ?_
  rintro e w12 ⟨rfl, hb⟩
  have HB := Lib.hid (below_inT HB.out hb)
  clear hb
  go_wp2_with fail
  go_ret
  exact ⟨rfl, HB.out⟩
theorem tellsL_walk (p : Int) (A : Option Addr) (al : List Int) (c : Nat) (D : Option Addr) (dn : List Int) (cd : Nat) (W : Option Addr) (wh : List Int) (d : Nat) (w : World) (hp : I64 p) (hx : ∀ x ∈ al, I64 x) (hr : Row w 0 A (ints al)) (hl : al.length * 8 ≤ 140737488351232) (hxd : ∀ x ∈ dn, I64 x) (hrd : Row w 0 D (ints dn)) (hd : dn.length * 8 ≤ 140737488351232) (hxw : ∀ x ∈ wh, I64 x) (hrw : Row w 0 W (ints wh)) (hm : wh.length * 8 ≤ 140737488351232) :
    Calls Try.prog 3 #[.int .i64 p, .slice A al.length c, .slice D dn.length cd, .slice W wh.length d] w fun e w' => e = .returned (.bool true) ∧ Below w.heap.size w w' := by
  by_cases h1 : 70 < al.length
  · exact tL_out1 p A D W _ _ _ c cd d w h1 (by omega) (by omega) (by omega)
  · by_cases h2 : 70 < dn.length
    · exact tL_out2 p A D W _ _ _ c cd d w h1 h2 (by omega) (by omega) (by omega)
    · by_cases h3 : 70 < wh.length
      · exact tL_out3 p A D W _ _ _ c cd d w h1 h2 h3 (by omega) (by omega) (by omega)
      · exact tL_in p A al c D dn cd W wh d w hp hx hr (by omega) hxd hrd (by omega) hxw hrw (by omega)
end Go.Proofs.Ytkceeifhnohioaa.PO
