/- The walk of the law AllotWhole. -/
import Derived.Test.YtkceeifhnohioaaLaw13A
namespace Go.Proofs.Ytkceeifhnohioaa.PO
open Go.RowKit Go.Proofs.Ytkceeifhnohioaa.Cents Go.Proofs.Ytkceeifhnohioaa.CO Go.Proofs.Ytkceeifhnohioaa.Exact
set_option linter.unusedVariables false
set_option linter.unusedSimpArgs false

/-- These are in the map at block m, and no others. -/
def SomeW (m : Nat) (ws : List Int) (w : World) : Prop := ∃ n D, World.ownsMap (H := Unit) w Try.prog 3 (plainElem Try.prog 4) m n D ∧ n ≤ ws.length ∧ ∀ x, I64 x → ∀ z, D.atKey (.int .i64 x) z = if x ∈ ws then .lit (.bool true) else z
theorem someW_made (w : World) : SomeW w.heap.size [] (w.alloc (.map #[] 0)) := ⟨0, _, World.ownsMap_made w _ _ _, Nat.le_refl _, fun x _ z => by rw [if_neg (by simp)]; exact WideAt.atKey_none z (by simp)⟩
theorem SomeW.later {m : Nat} {ps : List Int} {w w' : World} (h : SomeW m ps w) (hb : Below w.heap.size w w') : SomeW m ps w' := by
  obtain ⟨n, D, h1, h2, h3⟩ := h
  refine ⟨n, D, ?_, h2, h3⟩
  have hlt := h1.lt
  obtain ⟨es, clock, hh, F, hs, hD⟩ := h1
  exact ⟨es, clock, (hb.block m hlt).trans hh, F, hs, hD⟩
theorem plain_boolI {v : Value} {z : DataW Unit × List MemPlace} (h : plainElem Try.prog 4 v = some z) : ∃ x, v = .bool x ∧ z.1 = .lit (.bool x) := by
  unfold plainElem at h
  rw [Try.underlying4] at h
  cases v <;> simp at h
  exact ⟨_, rfl, by rw [← h]⟩
theorem someW_look {m : Nat} {ws : List Int} {w : World} (h : SomeW m ws w) {a : Int} (ha : I64 a) :
    (Instr.lookup 37 (.map (some m)) (.int .i64 a) false).run Try.prog w = .ok (.bool (decide (a ∈ ws))) w := by
  obtain ⟨n, D, h1, h2, h3⟩ := h
  obtain ⟨v, qs, hrun, hv⟩ := h1.lookup lawI Try.underlying37 (z := .bool false) (by kernel_rfl) (plainElem_bool Try.underlying4 false) (Maps.keyOf_int_mk Try.underlying3 (wf_int ha))
  obtain ⟨x, rfl, hx⟩ := plain_boolI hv
  rw [hrun]
  have := h3 a ha (.lit (.bool false))
  simp only at hx
  rw [this] at hx
  by_cases c : a ∈ ws
  · rw [if_pos c] at hx
    injection hx with hx; injection hx with hx
    rw [← hx]; simp [c]
  · rw [if_neg c] at hx
    injection hx with hx; injection hx with hx
    rw [← hx]; simp [c]
theorem someW_put {m : Nat} {ws : List Int} {w : World} (h : SomeW m ws w) (hl : ws.length ≤ 1000) {a : Int} (ha : I64 a) :
    ∃ w', (Instr.mapUpdate 37 (.map (some m)) (.int .i64 a) (.bool true)).run Try.prog w = .ok () w' ∧ SomeW m (ws ++ [a]) w' ∧ w.grownBy w' (some m) := by
  obtain ⟨n, D, h1, h2, h3⟩ := h
  have hm := h1.isMap
  obtain ⟨w', hrun, r1, r2⟩ := h1.update lawI Try.underlying37 (by unfold maxLen; omega) (Maps.keyOf_int_mk Try.underlying3 (wf_int ha)) (plainElem_bool Try.underlying4 true)
  refine ⟨w', hrun, ⟨n + 1, _, r1, by simp; omega, fun x hx z => ?_⟩, r2⟩
  by_cases e : x = a
  · subst e
    rw [if_pos (by simp)]
    exact Maps.atKey_put_same hm (show WideAt.IsKeyLit (.int .i64 x) from trivial) _ _
  · rw [Maps.atKey_put_other (fun h => e (by injection h)), h3 x hx z]
    by_cases c : x ∈ ws
    · rw [if_pos c, if_pos (by simp [c])]
    · rw [if_neg c, if_neg (by simp [c, e])]
theorem index3 (a b c d e f : Value) (w : World) :
    (Instr.index 35 (.agg #[a, b, c, d, e, f]) (.int .i64 0)).run Try.prog w = .ok (.agg #[a, b]) w ∧
    (Instr.index 35 (.agg #[a, b, c, d, e, f]) (.int .i64 1)).run Try.prog w = .ok (.agg #[c, d]) w ∧
    (Instr.index 35 (.agg #[a, b, c, d, e, f]) (.int .i64 2)).run Try.prog w = .ok (.agg #[e, f]) w := ⟨by kernel_rfl, by kernel_rfl, by kernel_rfl⟩
theorem fine_sum {p : Int} {n : Nat} {V : List Int} (hp : I64 p) (hs : V.sum = p) (hV : ∀ x ∈ V, I64 x) (hl : V.length ≤ 1000) : ∀ B c w1, Row w1 0 B (ints V) → Calls Try.prog 17 #[.slice B V.length c] w1 fun e w' => e = .returned (.tuple #[.int .i64 p, .int .i64 0]) ∧ Below w1.heap.size w1 w' :=
  fun B c w1 h => sum_is B V c w1 p 0 hV h (by omega) ⟨by unfold sumN; rw [hs, if_pos hp], by unfold sumE; rw [hs, if_pos hp]⟩
theorem wL_out1 (p : Int) (A D W : Option Addr) (n k m c cd d : Nat) (w : World) (h : 70 < n) (hn : n ≤ 140737488351232) (hk : k ≤ 140737488351232) (hm : m ≤ 140737488351232) :
    Calls Try.prog 4 #[.int .i64 p, .slice A n c, .slice D k cd, .slice W m d] w fun e w' => e = .returned (.bool true) ∧ Below w.heap.size w w' := by
  have h2 : (70 : Int) < (n : Int) := by omega
  go_enter Try.func4, Try.ntmps4
  go_wp2_with fail
  refine (awake13 _).mono ?_
  rintro e w1 ⟨rfl, hb⟩
  have HB := Lib.hid hb
  clear hb
  go_wp2_with fail
  go_ret
  exact ⟨rfl, HB.out⟩
theorem wL_out2 (p : Int) (A D W : Option Addr) (n k m c cd d : Nat) (w : World) (h : ¬ 70 < n) (h' : 70 < k) (hn : n ≤ 140737488351232) (hk : k ≤ 140737488351232) (hm : m ≤ 140737488351232) :
    Calls Try.prog 4 #[.int .i64 p, .slice A n c, .slice D k cd, .slice W m d] w fun e w' => e = .returned (.bool true) ∧ Below w.heap.size w w' := by
  have h2 : ¬ (70 : Int) < (n : Int) := by omega
  have h3 : (70 : Int) < (k : Int) := by omega
  go_enter Try.func4, Try.ntmps4
  go_wp2_with fail
  refine (awake13 _).mono ?_
  rintro e w1 ⟨rfl, hb⟩
  have HB := Lib.hid hb
  clear hb
  go_wp2_with fail
  go_ret
  exact ⟨rfl, HB.out⟩
theorem wL_out3 (p : Int) (A D W : Option Addr) (n k m c cd d : Nat) (w : World) (h : ¬ 70 < n) (h' : ¬ 70 < k) (h'' : 70 < m) (hn : n ≤ 140737488351232) (hk : k ≤ 140737488351232) (hm : m ≤ 140737488351232) :
    Calls Try.prog 4 #[.int .i64 p, .slice A n c, .slice D k cd, .slice W m d] w fun e w' => e = .returned (.bool true) ∧ Below w.heap.size w w' := by
  have h2 : ¬ (70 : Int) < (n : Int) := by omega
  have h3 : ¬ (70 : Int) < (k : Int) := by omega
  have h4 : (70 : Int) < (m : Int) := by omega
  go_enter Try.func4, Try.ntmps4
  go_wp2_with fail
  refine (awake13 _).mono ?_
  rintro e w1 ⟨rfl, hb⟩
  have HB := Lib.hid hb
  clear hb
  go_wp2_with fail
  go_ret
  exact ⟨rfl, HB.out⟩
set_option maxHeartbeats 4000000 in
set_option maxRecDepth 100000 in
theorem wL_in (p : Int) (A : Option Addr) (al : List Int) (c : Nat) (D : Option Addr) (dn : List Int) (cd : Nat) (W : Option Addr) (wh : List Int) (d : Nat) (w : World) (hp : I64 p) (hx : ∀ x ∈ al, I64 x) (hr : Row w 0 A (ints al)) (hl : al.length ≤ 70) (hxd : ∀ x ∈ dn, I64 x) (hrd : Row w 0 D (ints dn)) (hd : dn.length ≤ 70) (hxw : ∀ x ∈ wh, I64 x) (hrw : Row w 0 W (ints wh)) (hm : wh.length ≤ 70) :
    Calls Try.prog 4 #[.int .i64 p, .slice A al.length c, .slice D dn.length cd, .slice W wh.length d] w fun e w' => e = .returned (.bool true) ∧ Below w.heap.size w w' := by
  have HR := Lib.hid hr
  have HRD := Lib.hid hrd
  have HRW := Lib.hid hrw
  have HXW := Lib.hid hxw
  have H1 := Lib.hid (fun w1 (h : Row w1 0 A (ints al)) => all_is p A al c w1 hp hx h (by omega) (allV p al) (allE p al) ⟨rfl, rfl⟩)
  have H2 := Lib.hid (fun w1 (h : Row w1 0 A (ints al)) (h' : Row w1 0 W (ints wh)) => some_is p A W al wh c d w1 hp hx h h' (by omega) (by omega) (someV p al wh) (someE p al wh) ⟨rfl, rfl⟩)
  have H3 := Lib.hid (fun w1 (h : Row w1 0 D (ints dn)) (h' : Row w1 0 A (ints al)) => again_is p D A dn al cd c w1 hp (by omega) (by omega) hxd hx h h' (againV p dn al) (againE p dn al) ⟨rfl, rfl⟩)
  have N1 : (allE p al ≠ 0 ∧ (allV p al).length = 0) ∨ (allE p al = 0 ∧ (allV p al).length = al.length) := by
    by_cases h : allE p al = 0
    · exact .inr ⟨h, (all_sum h).1⟩
    · exact .inl ⟨h, by rw [all_bad0 h]; rfl⟩
  have N2 : (someE p al wh ≠ 0 ∧ (someV p al wh).length = 0) ∨ (someE p al wh = 0 ∧ (someV p al wh).length = al.length) := by
    by_cases h : someE p al wh = 0
    · exact .inr ⟨h, (some_sum h hx).1⟩
    · exact .inl ⟨h, by rw [some_bad0 h]; rfl⟩
  have N3 : (againE p dn al ≠ 0 ∧ (againV p dn al).length = 0) ∨ (againE p dn al = 0 ∧ (againV p dn al).length = al.length) := by
    by_cases h : againE p dn al = 0
    · exact .inr ⟨h, (again_sum h).1⟩
    · exact .inl ⟨h, by rw [again_bad0 h]; rfl⟩
  have S1 := Lib.hid (fun (h : allE p al = 0) => fine_sum (n := 0) hp (all_sum h).2 (all_I hp) (by rw [(all_sum h).1]; omega))
  have S2 := Lib.hid (fun (h : someE p al wh = 0) => fine_sum (n := 0) hp (some_sum h hx).2.1 (some_sum h hx).2.2.1 (by rw [(some_sum h hx).1]; omega))
  have S3 := Lib.hid (fun (h : againE p dn al = 0) => fine_sum (n := 0) hp (again_sum h).2.1 (again_sum h).2.2 (by rw [(again_sum h).1]; omega))
  have T2 := Lib.hid (fun (h : someE p al wh = 0) i (hi : i < al.length) => show 0 ≤ (someV p al wh).getD i 0 ∧ ((i : Int) ∉ wh → (someV p al wh).getD i 0 = al.getD i 0) from ⟨by
    have h1 := (some_sum h hx).2.2.2.1
    have h2 : i < (someV p al wh).length := by rw [(some_sum h hx).1]; exact hi
    rw [List.getD_eq_getElem?_getD, List.getElem?_eq_getElem h2]
    exact h1 _ (List.getElem_mem _), (some_sum h hx).2.2.2.2 i⟩)
  generalize allE p al = E1 at *
  generalize someE p al wh = E2 at *
  generalize againE p dn al = E3 at *
  generalize allV p al = V1 at *
  generalize someV p al wh = V2 at *
  generalize againV p dn al = V3 at *
  obtain ⟨n, hn⟩ : ∃ n, al.length = n := ⟨_, rfl⟩
  obtain ⟨m, hmm⟩ : ∃ m, wh.length = m := ⟨_, rfl⟩
  obtain ⟨n2, hn2⟩ : ∃ n, V2.length = n := ⟨_, rfl⟩
  have HN := Lib.hid hn
  have HM := Lib.hid hmm
  have HN2 := Lib.hid hn2
  rw [hn] at hl N1 N2 N3 T2 H1 H2 H3 ⊢
  rw [hmm] at hm H2 ⊢
  rw [hn2] at N2 S2
  generalize dn.length = k at *
  have M1 := Lib.hid N1
  have M2 := Lib.hid N2
  have M3 := Lib.hid N3
  have g1 : ¬ (70 : Int) < (n : Int) := by omega
  have g2 : ¬ (70 : Int) < (k : Int) := by omega
  have g3 : ¬ (70 : Int) < (m : Int) := by omega
  clear hp hx hr hxd hrd hxw hrw hn hmm N1 N2 N3
  go_enter Try.func4, Try.ntmps4
  go_wp2_with fail
  refine (awake13 _).mono ?_
  rintro e w1 ⟨rfl, hb⟩
  have HB := Lib.hid hb
  clear hb
  go_wp2_with fail
  refine (H1.out _ (HR.out.below HB.out)).mono ?_
  rintro e w2 ⟨B1, c1, rfl, hrb, _, hb⟩
  have HB := Lib.hid (below_inA HB.out hb)
  have R1 := Lib.hid (hrb.weak (Nat.zero_le _))
  clear hb hrb
  generalize V1.length = n1 at *
  go_wp2_with fail
  refine (H2.out _ (HR.out.below HB.out) (HRW.out.below HB.out)).mono ?_
  rintro e w3 ⟨B2, c2, rfl, hrb, _, hb⟩
  rw [HN2.out]
  have HB := Lib.hid (below_inA HB.out hb)
  have R1 := Lib.hid (R1.out.below hb)
  have R2 := Lib.hid (hrb.weak (Nat.zero_le _))
  clear hb hrb hn2
  go_wp2_with fail
  refine (H3.out _ (HRD.out.below HB.out) (HR.out.below HB.out)).mono ?_
  rintro e w4 ⟨B3, c3, rfl, hrb, _, hb⟩
  have HB := Lib.hid (below_inA HB.out hb)
  have R1 := Lib.hid (R1.out.below hb)
  have R2 := Lib.hid (R2.out.below hb)
  have R3 := Lib.hid (hrb.weak (Nat.zero_le _))
  clear hb hrb H1 H2 H3
  generalize V3.length = n3 at *
  go_wp2_with fail
  go_loopw [69] (fun i wr => ∃ k : Nat, i = .int .i64 (k : Int) ∧ k ≤ 3 ∧ Below w4.heap.size w4 wr) (fun i _ => 3 - (intOf i).toNat)
  case atStart => exact ⟨0, rfl, by omega, Below.refl _ _⟩
  case round =>
    obtain ⟨k, rfl, hk, hb⟩ := hrel
    have HC := Lib.hid hb
    clear hb
    have hix := fun a b c d e f => index3 a b c d e f wr
    have hk' : k = 0 ∨ k = 1 ∨ k = 2 ∨ k = 3 := by omega
    clear hk
    rcases hk' with rfl | rfl | rfl | rfl
    · rcases M1.out with ⟨e1, e2⟩ | ⟨e1, e2⟩
      · have e3 : (E1 != 0) = true := by simpa using e1
        subst e2
        clear S1 S2 S3 T2 M1 M2 M3
        obtain ⟨hi0, hi1, hi2⟩ := hix (.slice B1 0 c1) (.int .i64 E1) (.slice B2 n2 c2) (.int .i64 E2) (.slice B3 n3 c3) (.int .i64 E3)
        clear hix
        go_wp2_with fail
        go_roundw
        case rel => exact ⟨1, by go_num, by omega, HC.out.alloc HC.out.size _⟩
        case measure => simp [intOf]
      · subst e1
        have SS := Lib.hid (S1.out rfl)
        obtain rfl : n = n1 := e2.symm
        clear S1 S2 S3 T2 M1 M2 M3
        obtain ⟨hi0, hi1, hi2⟩ := hix (.slice B1 n c1) (.int .i64 0) (.slice B2 n2 c2) (.int .i64 E2) (.slice B3 n3 c3) (.int .i64 E3)
        clear hix
        go_wp2_with fail
        have hbk := Blk.new wr 34 #[.slice B1 n c1, .int .i64 0]
        have hal := alloc1 wr (.cells #[.slice B1 n c1, .int .i64 0] 34)
        refine (SS.out _ _ _ ((R1.out.below HC.out).below hal)).mono ?_
        rintro e w5 ⟨rfl, hb⟩
        have f0 : w5.cell? ⟨wr.heap.size, 0, none⟩ = some (.slice B1 n c1) := (hbk.below hb hbk.lt).cell 0
        have HC2 := Lib.hid (HC.out.trans ((hal.trans (hb.mono hal.size)).mono HC.out.size))
        clear hb hbk hal
        go_wp2_with fail
        go_roundw
        case rel => exact ⟨1, by go_num, by omega, HC2.out⟩
        case measure => simp [intOf]
    · rcases M2.out with ⟨e1, e2⟩ | ⟨e1, e2⟩
      · have e3 : (E2 != 0) = true := by simpa using e1
        subst e2
        clear S1 S2 S3 T2 M1 M2 M3
        obtain ⟨hi0, hi1, hi2⟩ := hix (.slice B1 n1 c1) (.int .i64 E1) (.slice B2 0 c2) (.int .i64 E2) (.slice B3 n3 c3) (.int .i64 E3)
        clear hix
        go_wp2_with fail
        go_roundw
        case rel => exact ⟨2, by go_num, by omega, HC.out.alloc HC.out.size _⟩
        case measure => simp [intOf]
      · subst e1
        have SS := Lib.hid (S2.out rfl)
        obtain rfl : n = n2 := e2.symm
        clear S1 S2 S3 T2 M1 M2 M3
        obtain ⟨hi0, hi1, hi2⟩ := hix (.slice B1 n1 c1) (.int .i64 E1) (.slice B2 n c2) (.int .i64 0) (.slice B3 n3 c3) (.int .i64 E3)
        clear hix
        go_wp2_with fail
        have hbk := Blk.new wr 34 #[.slice B2 n c2, .int .i64 0]
        have hal := alloc1 wr (.cells #[.slice B2 n c2, .int .i64 0] 34)
        refine (SS.out _ _ _ ((R2.out.below HC.out).below hal)).mono ?_
        rintro e w5 ⟨rfl, hb⟩
        have f0 : w5.cell? ⟨wr.heap.size, 0, none⟩ = some (.slice B2 n c2) := (hbk.below hb hbk.lt).cell 0
        have HC2 := Lib.hid (HC.out.trans ((hal.trans (hb.mono hal.size)).mono HC.out.size))
        clear hb hbk hal
        go_wp2_with fail
        go_roundw
        case rel => exact ⟨2, by go_num, by omega, HC2.out⟩
        case measure => simp [intOf]
    · rcases M3.out with ⟨e1, e2⟩ | ⟨e1, e2⟩
      · have e3 : (E3 != 0) = true := by simpa using e1
        subst e2
        clear S1 S2 S3 T2 M1 M2 M3
        obtain ⟨hi0, hi1, hi2⟩ := hix (.slice B1 n1 c1) (.int .i64 E1) (.slice B2 n2 c2) (.int .i64 E2) (.slice B3 0 c3) (.int .i64 E3)
        clear hix
        go_wp2_with fail
        go_roundw
        case rel => exact ⟨3, by go_num, by omega, HC.out.alloc HC.out.size _⟩
        case measure => simp [intOf]
      · subst e1
        have SS := Lib.hid (S3.out rfl)
        obtain rfl : n = n3 := e2.symm
        clear S1 S2 S3 T2 M1 M2 M3
        obtain ⟨hi0, hi1, hi2⟩ := hix (.slice B1 n1 c1) (.int .i64 E1) (.slice B2 n2 c2) (.int .i64 E2) (.slice B3 n c3) (.int .i64 0)
        clear hix
        go_wp2_with fail
        have hbk := Blk.new wr 34 #[.slice B3 n c3, .int .i64 0]
        have hal := alloc1 wr (.cells #[.slice B3 n c3, .int .i64 0] 34)
        refine (SS.out _ _ _ ((R3.out.below HC.out).below hal)).mono ?_
        rintro e w5 ⟨rfl, hb⟩
        have f0 : w5.cell? ⟨wr.heap.size, 0, none⟩ = some (.slice B3 n c3) := (hbk.below hb hbk.lt).cell 0
        have HC2 := Lib.hid (HC.out.trans ((hal.trans (hb.mono hal.size)).mono HC.out.size))
        clear hb hbk hal
        go_wp2_with fail
        go_roundw
        case rel => exact ⟨3, by go_num, by omega, HC2.out⟩
        case measure => simp [intOf]
    · clear S1 S2 S3 M1 M3 hix
      have HB4 := Lib.hid (HB.out.trans (HC.out.mono HB.out.size))
      have R2 := Lib.hid (R2.out.below HC.out)
      clear HC HB R1 R3
      rcases M2.out with ⟨e1, e2⟩ | ⟨e1, e2⟩
      · have e3 : (E2 != 0) = true := by simpa using e1
        subst e2
        clear T2 M2
        go_wp2_with fail
        go_ret
        exact ⟨rfl, HB4.out⟩
      · subst e1
        obtain rfl : n = n2 := e2.symm
        have T3 := Lib.hid (T2.out rfl)
        clear T2 M2
        have hmk : (Instr.makeMap 37 none).run Try.prog wr = .ok (.map (some wr.heap.size)) (wr.alloc (.map #[] 0)) := run_makeMap _ _
        go_wp2_with fail
        have hsm := someW_made wr
        have hal := alloc1 wr (.map #[] 0)
        obtain ⟨wq, hwq⟩ : ∃ wq : World, wq = wr := ⟨_, rfl⟩
        rw [← hwq] at hsm hal HB4 R2 ⊢
        obtain ⟨M, hM⟩ : ∃ M, wq.heap.size = M := ⟨_, rfl⟩
        have HQ := Lib.hid hM
        rw [hM] at hsm ⊢
        have HSM := Lib.hid hsm
        have HAL := Lib.hid hal
        clear hsm hal hmk hwq hM
        go_loopw [106] (fun i wr => ∃ j : Nat, i = .int .i64 (j : Int) ∧ j ≤ m ∧ SomeW M (wh.take j) wr ∧ Below wq.heap.size wq wr) (fun i _ => m - (intOf i).toNat)
        case atStart => exact ⟨0, rfl, by omega, by simpa using HSM.out, HAL.out⟩
        case round =>
          clear HSM HAL
          obtain ⟨j, rfl, hj, hsm, hb⟩ := hrel
          have HSM := Lib.hid hsm
          have HC := Lib.hid hb
          clear hsm hb
          have g0 : (0 : Int) ≤ (j : Int) := Int.natCast_nonneg _
          by_cases hjm : j < m
          · have hjl : j < wh.length := by rw [HM.out]; exact hjm
            obtain ⟨wd, rfl, c0⟩ := int_cell ((HRW.out.below HB4.out).below HC.out) (j := j) hjl
            have g1 : (j : Int) < (m : Int) := by omega
            have hxi := getD_I HXW.out hjl
            have htk : wh.take (j + 1) = wh.take j ++ [wh.getD j 0] := by
              rw [List.take_succ_eq_append_getElem hjl]; simp [List.getD_eq_getElem?_getD, hjl]
            generalize wh.getD j 0 = x at *
            obtain ⟨wu, hput, hsm2, hgr⟩ := someW_put HSM.out (by rw [List.length_take]; omega) hxi
            have HTK := Lib.hid htk
            have HS2 := Lib.hid hsm2
            have HC2 := Lib.hid (HC.out.grown hgr HC.out.size (fun i hi => by injection hi with hi; rw [HQ.out, hi]; exact Nat.le_refl _))
            clear hxi htk hsm2 hgr hjl
            go_wp2_with fail
            go_roundw
            case rel => exact ⟨j + 1, by go_num, by omega, by rw [HTK.out]; exact HS2.out, HC2.out⟩
            case measure => simp [intOf]; omega
          · obtain rfl : j = m := by omega
            rw [List.take_of_length_le (show wh.length ≤ j by rw [HM.out]; exact Nat.le_refl _)] at HSM
            go_wp2_with fail
            go_loop [115] (fun i => ∃ k : Nat, i = .int .i64 (k : Int) ∧ k ≤ n) (fun i => n - (intOf i).toNat)
            case atStart => exact ⟨0, rfl, by omega⟩
            case round =>
              obtain ⟨i, rfl, hi⟩ := hrel
              have g2 : (0 : Int) ≤ (i : Int) := Int.natCast_nonneg _
              by_cases hin : i < n
              · obtain ⟨bd, rfl, c0⟩ := int_cell (R2.out.below HC.out) (j := i) (by rw [HN2.out]; exact hin)
                obtain ⟨ad, rfl, c1⟩ := int_cell ((HR.out.below HB4.out).below HC.out) (j := i) (by rw [HN.out]; exact hin)
                have g3 : (i : Int) < (n : Int) := by omega
                have hlk := someW_look HSM.out (a := (i : Int)) (by unfold I64; omega)
                obtain ⟨t1, t2⟩ := T3.out i hin
                generalize V2.getD i 0 = x at *
                generalize al.getD i 0 = y at *
                have t3 : ¬ x < 0 := by omega
                have t4 : decide (x < 0) = false := by simp; omega
                by_cases hw : (i : Int) ∈ wh
                · rw [decide_eq_true hw] at hlk
                  clear t2
                  go_wp2_with fail
                  go_round
                  case rel => exact ⟨i + 1, by go_num, by omega⟩
                  case measure => simp [intOf]; omega
                · rw [decide_eq_false hw] at hlk
                  obtain rfl := t2 hw
                  clear t2
                  go_wp2_with fail
                  go_round
                  case rel => exact ⟨i + 1, by go_num, by omega⟩
                  case measure => simp [intOf]; omega
              · obtain rfl : i = n := by omega
                go_wp2_with fail
                go_ret
                exact ⟨rfl, HB4.out.trans (HC.out.mono HB4.out.size)⟩
theorem wholeL_walk (p : Int) (A : Option Addr) (al : List Int) (c : Nat) (D : Option Addr) (dn : List Int) (cd : Nat) (W : Option Addr) (wh : List Int) (d : Nat) (w : World) (hp : I64 p) (hx : ∀ x ∈ al, I64 x) (hr : Row w 0 A (ints al)) (hl : al.length * 8 ≤ 140737488351232) (hxd : ∀ x ∈ dn, I64 x) (hrd : Row w 0 D (ints dn)) (hd : dn.length * 8 ≤ 140737488351232) (hxw : ∀ x ∈ wh, I64 x) (hrw : Row w 0 W (ints wh)) (hm : wh.length * 8 ≤ 140737488351232) :
    Calls Try.prog 4 #[.int .i64 p, .slice A al.length c, .slice D dn.length cd, .slice W wh.length d] w fun e w' => e = .returned (.bool true) ∧ Below w.heap.size w w' := by
  by_cases h1 : 70 < al.length
  · exact wL_out1 p A D W _ _ _ c cd d w h1 (by omega) (by omega) (by omega)
  · by_cases h2 : 70 < dn.length
    · exact wL_out2 p A D W _ _ _ c cd d w h1 h2 (by omega) (by omega) (by omega)
    · by_cases h3 : 70 < wh.length
      · exact wL_out3 p A D W _ _ _ c cd d w h1 h2 h3 (by omega) (by omega) (by omega)
      · exact wL_in p A al c D dn cd W wh d w hp hx hr (by omega) hxd hrd (by omega) hxw hrw (by omega)
end Go.Proofs.Ytkceeifhnohioaa.PO
