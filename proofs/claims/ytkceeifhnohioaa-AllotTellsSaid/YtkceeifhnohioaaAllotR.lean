/- The walks of the reference of allot: All, Discount, Again. -/
import Derived.Test.YtkceeifhnohioaaAllotA
import Derived.Test.YtkceeifhnohioaaRefOutA
import Derived.BigQuiet
namespace Go.Proofs.Ytkceeifhnohioaa.PO
open Go.RowKit Go.Proofs.Ytkceeifhnohioaa.Cents Go.Proofs.Ytkceeifhnohioaa.CO Go.Proofs.Ytkceeifhnohioaa.Exact
set_option linter.unusedVariables false
set_option linter.unusedSimpArgs false

theorem rall_any (p : Int) (A : Option Addr) (al : List Int) (c : Nat) (w : World) (hp : I64 p) (hx : ∀ x ∈ al, I64 x) (hr : Row w 0 A (ints al)) (hl : al.length ≤ 70) :
    Calls Try.prog 9 #[.int .i64 p, .slice A al.length c] w (RetL w (allV p al) (allE p al)) := by
  by_cases h : p < 0
  · unfold allE allV
    rw [if_pos h, if_pos h]
    generalize al.length = n at *
    clear hx hr hl hp
    go_enter Try.func9, Try.ntmps9
    go_wp2_with fail
    go_ret2
    exact ⟨none, 0, rfl, Row.none_, by simp, Below.refl _ _⟩
  · unfold allE allV
    rw [if_neg h, if_neg h]
    have HO := Lib.hid (rout_any p A al c w hp hx hr (by omega))
    generalize outV p al = V at *
    generalize outE p al = E at *
    generalize al.length = n at *
    clear hx hr hl hp
    go_enter Try.func9, Try.ntmps9
    go_wp2_with fail
    refine HO.out.mono ?_
    rintro e w1 ⟨B, d, rfl, h1, h2, h3⟩
    have H1 := Lib.hid h1
    have H2 := Lib.hid h2
    have H3 := Lib.hid h3
    clear h1 h2 h3
    go_wp2_with fail
    go_ret2
    exact ⟨B, d, rfl, H1.out, H2.out, H3.out⟩
theorem rdisc_is (p : Int) (A : Option Addr) (al : List Int) (c : Nat) (w : World) (hp : I64 p) (hl : al.length ≤ 70) (hx : ∀ x ∈ al, I64 x) (hr : Row w 0 A (ints al)) (x y : Int) (h : fitN (al.sum - p) = x ∧ fitE (al.sum - p) = y) :
    Calls Try.prog 13 #[.int .i64 p, .slice A al.length c] w fun e w' => e = .returned (.tuple #[.int .i64 x, .int .i64 y]) ∧ Below w.heap.size w w' := by
  have HT := Lib.hid (total_any (fun _ => True) A al c w (fun _ _ => trivial) hx hr (by omega))
  have HP := Lib.hid hp
  have HH := Lib.hid h
  generalize al.sum = S at *
  generalize al.length = n at *
  clear hx hr hp h
  go_enter Try.func13, Try.ntmps13
  go_wp2_with fail
  refine HT.out.mono ?_
  rintro e w1 ⟨v1, rfl, x1, b1⟩
  have X1 := Lib.hid x1
  have HB := Lib.hid b1
  clear x1 b1 HT
  go_wp2_with fail
  refine (of_any (fun _ => True) p _ (fun _ _ => trivial) HP.out).mono ?_
  rintro e w2 ⟨v2, rfl, x2, b2⟩
  have X1 := Lib.hid (X1.out.below b2)
  have X2 := Lib.hid x2
  have HB := Lib.hid (HB.out.trans (b2.mono HB.out.size))
  clear x2 b2
  go_wp2_with fail
  refine (Exact.less_any (fun _ => True) _ _ S p (n + 7) _ (fun _ _ => trivial) X1.out (X2.out.more (by omega)) (by omega)).mono ?_
  rintro e w3 ⟨v3, rfl, x3, b3⟩
  have X3 := Lib.hid x3
  have HB := Lib.hid (HB.out.trans (b3.mono HB.out.size))
  clear x3 b3
  go_wp2_with fail
  refine (fit_is _ (S - p) (n + 7 + 1) _ X3.out (by omega) (by omega) x y HH.out).mono ?_
  rintro e w4 ⟨rfl, b4⟩
  have HB := Lib.hid (HB.out.trans (b4.mono HB.out.size))
  clear b4
  go_wp2_with fail
  go_ret2
  exact ⟨rfl, HB.out⟩
theorem rout_own (T : Int) (A : Option Addr) (ws : List Int) (c : Nat) (w : World) (hT : I64 T) (hx : ∀ x ∈ ws, I64 x) (hr : Row w 0 A (ints ws)) (hE : outE T ws = 0) :
    Calls Try.prog 20 #[.int .i64 T, .slice A ws.length c] w (RetA w (outV T ws) 0) := by
  obtain ⟨h1, h2⟩ := outE_ok hE
  have hV : outV T ws = (outL (max (0 - T) T) ws.sum ws).map (fun x => if T < 0 then -x else x) := by unfold outV; rw [if_pos hE]
  rw [hV]
  by_cases h0 : T < 0
  · refine (rout_neg T A ws c w hT h0 h2 hx hr h1).mono ?_
    rintro e w' ⟨v, rfl, hall⟩
    rw [show max (0 - T) T = -T by omega, show (fun x : Int => if T < 0 then -x else x) = (fun x => -x) by funext x; rw [if_pos h0]]
    exact ⟨v, rfl, hall⟩
  · refine (rout_pos T A ws c w hT (by omega) hx hr h1).mono ?_
    rintro e w' ⟨v, rfl, hall⟩
    rw [show max (0 - T) T = T by omega, show (fun x : Int => if T < 0 then -x else x) = id by funext x; rw [if_neg h0]; rfl, List.map_id]
    exact ⟨v, rfl, hall⟩
theorem rout_no (T : Int) (A : Option Addr) (ws : List Int) (c : Nat) (w : World) (hT : I64 T) (hx : ∀ x ∈ ws, I64 x) (hr : Row w 0 A (ints ws)) (hl : ws.length ≤ 70) (hE : outE T ws ≠ 0) :
    Calls Try.prog 20 #[.int .i64 T, .slice A ws.length c] w (RetL w [] (outE T ws)) := by
  have := rout_any T A ws c w hT hx hr (by omega)
  rw [outV_bad hE] at this
  exact this
theorem fit_yes {n : Int} (h : I64 n) : fitN n = n ∧ fitE n = 0 := by unfold fitN fitE; rw [if_pos h, if_pos h]; exact ⟨rfl, rfl⟩
theorem left_no1 {o s : Int} (h : ¬ I64 s) : leftE o s ≠ 0 := by unfold leftE; rw [if_neg h]; decide
theorem left_no2 {o s : Int} (h : ¬ I64 (o - s)) : leftE o s ≠ 0 := by
  unfold leftE
  by_cases hs : I64 s
  · rw [if_pos hs, if_neg h]; decide
  · rw [if_neg hs]; decide
theorem left_yes {o s : Int} (h : I64 s) (h2 : I64 (o - s)) : leftE o s = 0 ∧ leftN o s = o - s := by
  have : leftE o s = 0 := by unfold leftE; rw [if_pos h, if_pos h2]
  exact ⟨this, by unfold leftN; rw [if_pos this]⟩
theorem ragain_bad (t : Int) (D A : Option Addr) (d al : List Int) (cd c : Nat) (w : World) (h : d.length ≠ al.length) (hd : d.length ≤ 70) (hl : al.length ≤ 70) :
    Calls Try.prog 15 #[.int .i64 t, .slice D d.length cd, .slice A al.length c] w (RetL w (againV t d al) (againE t d al)) := by
  obtain ⟨e1, e2⟩ := again_len (t := t) h
  rw [e1, e2]
  generalize d.length = k at *
  generalize al.length = n at *
  have h1 : ¬ (k : Int) = (n : Int) := by omega
  go_enter Try.func15, Try.ntmps15
  go_wp2_with fail
  go_ret2
  exact ⟨none, 0, rfl, Row.none_, by simp, Below.refl _ _⟩
set_option maxHeartbeats 1000000 in
set_option maxRecDepth 100000 in
theorem ragain_o1 (t : Int) (D A : Option Addr) (d al : List Int) (cd c : Nat) (w : World) (ht : I64 t) (h : d.length = al.length) (hl : al.length ≤ 70) (hxd : ∀ x ∈ d, I64 x) (hxa : ∀ x ∈ al, I64 x) (hrd : Row w 0 D (ints d)) (hra : Row w 0 A (ints al)) (hs : ¬ I64 d.sum) :
    Calls Try.prog 15 #[.int .i64 t, .slice D d.length cd, .slice A al.length c] w (RetL w (againV t d al) (againE t d al)) := by
  obtain ⟨e1, e2⟩ := again_left h (left_no1 hs)
  rw [e1, e2]
  have HT := Lib.hid (fun w1 (hr : Row w1 0 D (ints d)) => total_any (fun _ => True) D d cd w1 (fun _ _ => trivial) hxd hr (by omega))
  have HRD := Lib.hid hrd
  have HTI := Lib.hid ht
  have HS := Lib.hid (fit_no hs)
  rw [h] at HT ⊢
  generalize d.sum = S at *
  generalize al.length = n at *
  clear ht h hxd hxa hrd hra hs e1 e2
  go_enter Try.func15, Try.ntmps15
  go_wp2_with fail
  refine (HT.out w HRD.out).mono ?_
  rintro e w1 ⟨v1, rfl, x1, b1⟩
  have X1 := Lib.hid x1
  have HB := Lib.hid b1
  clear x1 b1
  go_wp2_with fail
  refine (fit_is _ S (n + 7) _ X1.out (by omega) (by omega) 0 3 HS.out).mono ?_
  rintro e w2 ⟨rfl, b2⟩
  have HB := Lib.hid (HB.out.trans (b2.mono HB.out.size))
  clear b2 X1
  go_wp2_with fail
  refine (of_any (fun _ => True) t _ (fun _ _ => trivial) HTI.out).mono ?_
  rintro e w3 ⟨v3, rfl, x3, b3⟩
  have X3 := Lib.hid x3
  have HB := Lib.hid (HB.out.trans (b3.mono HB.out.size))
  clear x3 b3
  go_wp2_with fail
  refine (HT.out w3 (HRD.out.below HB.out)).mono ?_
  rintro e w4 ⟨v4, rfl, x4, b4⟩
  have X3 := Lib.hid (X3.out.below b4)
  have X4 := Lib.hid x4
  have HB := Lib.hid (HB.out.trans (b4.mono HB.out.size))
  clear x4 b4
  go_wp2_with fail
  refine (Exact.less_any (fun _ => True) _ _ t S (n + 7) _ (fun _ _ => trivial) (X3.out.more (by omega)) X4.out (by omega)).mono ?_
  rintro e w5 ⟨v5, rfl, x5, b5⟩
  have X5 := Lib.hid x5
  have HB := Lib.hid (HB.out.trans (b5.mono HB.out.size))
  clear x5 b5 X3 X4
  go_wp2_with fail
  refine (fit_is _ (t - S) (n + 7 + 1) _ X5.out (by omega) (by omega) _ _ ⟨rfl, rfl⟩).mono ?_
  rintro e w6 ⟨rfl, b6⟩
  have HB := Lib.hid (HB.out.trans (b6.mono HB.out.size))
  clear b6 X5 HT
  go_wp2_with fail
  go_ret2
  exact ⟨none, 0, rfl, Row.none_, by simp, HB.out⟩
set_option maxHeartbeats 1000000 in
set_option maxRecDepth 100000 in
theorem ragain_o2 (t : Int) (D A : Option Addr) (d al : List Int) (cd c : Nat) (w : World) (ht : I64 t) (h : d.length = al.length) (hl : al.length ≤ 70) (hxd : ∀ x ∈ d, I64 x) (hxa : ∀ x ∈ al, I64 x) (hrd : Row w 0 D (ints d)) (hra : Row w 0 A (ints al)) (hs0 : I64 d.sum) (hs : ¬ I64 (t - d.sum)) :
    Calls Try.prog 15 #[.int .i64 t, .slice D d.length cd, .slice A al.length c] w (RetL w (againV t d al) (againE t d al)) := by
  obtain ⟨e1, e2⟩ := again_left h (left_no2 hs)
  rw [e1, e2]
  have HT := Lib.hid (fun w1 (hr : Row w1 0 D (ints d)) => total_any (fun _ => True) D d cd w1 (fun _ _ => trivial) hxd hr (by omega))
  have HRD := Lib.hid hrd
  have HTI := Lib.hid ht
  have HS := Lib.hid (fit_no hs)
  have HS0 := Lib.hid (fit_yes hs0)
  rw [h] at HT ⊢
  generalize d.sum = S at *
  generalize al.length = n at *
  clear ht h hxd hxa hrd hra hs e1 e2 hs0
  go_enter Try.func15, Try.ntmps15
  go_wp2_with fail
  refine (HT.out w HRD.out).mono ?_
  rintro e w1 ⟨v1, rfl, x1, b1⟩
  have X1 := Lib.hid x1
  have HB := Lib.hid b1
  clear x1 b1
  go_wp2_with fail
  refine (fit_is _ S (n + 7) _ X1.out (by omega) (by omega) S 0 HS0.out).mono ?_
  rintro e w2 ⟨rfl, b2⟩
  have HB := Lib.hid (HB.out.trans (b2.mono HB.out.size))
  clear b2 X1
  go_wp2_with fail
  refine (of_any (fun _ => True) t _ (fun _ _ => trivial) HTI.out).mono ?_
  rintro e w3 ⟨v3, rfl, x3, b3⟩
  have X3 := Lib.hid x3
  have HB := Lib.hid (HB.out.trans (b3.mono HB.out.size))
  clear x3 b3
  go_wp2_with fail
  refine (HT.out w3 (HRD.out.below HB.out)).mono ?_
  rintro e w4 ⟨v4, rfl, x4, b4⟩
  have X3 := Lib.hid (X3.out.below b4)
  have X4 := Lib.hid x4
  have HB := Lib.hid (HB.out.trans (b4.mono HB.out.size))
  clear x4 b4
  go_wp2_with fail
  refine (Exact.less_any (fun _ => True) _ _ t S (n + 7) _ (fun _ _ => trivial) (X3.out.more (by omega)) X4.out (by omega)).mono ?_
  rintro e w5 ⟨v5, rfl, x5, b5⟩
  have X5 := Lib.hid x5
  have HB := Lib.hid (HB.out.trans (b5.mono HB.out.size))
  clear x5 b5 X3 X4
  go_wp2_with fail
  refine (fit_is _ (t - S) (n + 7 + 1) _ X5.out (by omega) (by omega) 0 3 HS.out).mono ?_
  rintro e w6 ⟨rfl, b6⟩
  have HB := Lib.hid (HB.out.trans (b6.mono HB.out.size))
  clear b6 X5 HT
  go_wp2_with fail
  go_ret2
  exact ⟨none, 0, rfl, Row.none_, by simp, HB.out⟩
set_option maxHeartbeats 1000000 in
set_option maxRecDepth 100000 in
theorem ragain_no (t : Int) (D A : Option Addr) (d al : List Int) (cd c : Nat) (w : World) (ht : I64 t) (h : d.length = al.length) (hl : al.length ≤ 70) (hxd : ∀ x ∈ d, I64 x) (hxa : ∀ x ∈ al, I64 x) (hrd : Row w 0 D (ints d)) (hra : Row w 0 A (ints al)) (hs0 : I64 d.sum) (hs : I64 (t - d.sum)) (hE : outE (t - d.sum) al ≠ 0) :
    Calls Try.prog 15 #[.int .i64 t, .slice D d.length cd, .slice A al.length c] w (RetL w (againV t d al) (againE t d al)) := by
  obtain ⟨l1, l2⟩ := left_yes hs0 hs
  obtain ⟨e1, e2⟩ := again_out h l1 (by rw [l2]; exact hE)
  rw [e1, e2, l2]
  have HT := Lib.hid (fun w1 (hr : Row w1 0 D (ints d)) => total_any (fun _ => True) D d cd w1 (fun _ _ => trivial) hxd hr (by omega))
  have HRD := Lib.hid hrd
  have HTI := Lib.hid ht
  have HS := Lib.hid (fit_yes hs)
  have HS0 := Lib.hid (fit_yes hs0)
  have HO := Lib.hid (fun w1 (hr : Row w1 0 A (ints al)) => rout_no (t - d.sum) A al c w1 hs hxa hr hl hE)
  have HRA := Lib.hid hra
  have HEN := Lib.hid hE
  rw [h] at HT ⊢
  generalize outE (t - d.sum) al = E at *
  generalize d.sum = S at *
  generalize al.length = n at *
  have hne := HEN.out
  clear ht h hxd hxa hrd hra hs hs0 e1 e2 l1 l2 hE
  go_enter Try.func15, Try.ntmps15
  go_wp2_with fail
  refine (HT.out w HRD.out).mono ?_
  rintro e w1 ⟨v1, rfl, x1, b1⟩
  have X1 := Lib.hid x1
  have HB := Lib.hid b1
  clear x1 b1
  go_wp2_with fail
  refine (fit_is _ S (n + 7) _ X1.out (by omega) (by omega) S 0 HS0.out).mono ?_
  rintro e w2 ⟨rfl, b2⟩
  have HB := Lib.hid (HB.out.trans (b2.mono HB.out.size))
  clear b2 X1
  go_wp2_with fail
  refine (of_any (fun _ => True) t _ (fun _ _ => trivial) HTI.out).mono ?_
  rintro e w3 ⟨v3, rfl, x3, b3⟩
  have X3 := Lib.hid x3
  have HB := Lib.hid (HB.out.trans (b3.mono HB.out.size))
  clear x3 b3
  go_wp2_with fail
  refine (HT.out w3 (HRD.out.below HB.out)).mono ?_
  rintro e w4 ⟨v4, rfl, x4, b4⟩
  have X3 := Lib.hid (X3.out.below b4)
  have X4 := Lib.hid x4
  have HB := Lib.hid (HB.out.trans (b4.mono HB.out.size))
  clear x4 b4
  go_wp2_with fail
  refine (Exact.less_any (fun _ => True) _ _ t S (n + 7) _ (fun _ _ => trivial) (X3.out.more (by omega)) X4.out (by omega)).mono ?_
  rintro e w5 ⟨v5, rfl, x5, b5⟩
  have X5 := Lib.hid x5
  have HB := Lib.hid (HB.out.trans (b5.mono HB.out.size))
  clear x5 b5 X3 X4
  go_wp2_with fail
  refine (fit_is _ (t - S) (n + 7 + 1) _ X5.out (by omega) (by omega) (t - S) 0 HS.out).mono ?_
  rintro e w6 ⟨rfl, b6⟩
  have HB := Lib.hid (HB.out.trans (b6.mono HB.out.size))
  clear b6 X5 HT
  go_wp2_with fail
  refine (HO.out _ (HRA.out.below HB.out)).mono ?_
  rintro e w7 ⟨B, cb, rfl, hrb, hcb, hb⟩
  have HB := Lib.hid (HB.out.trans (hb.mono HB.out.size))
  clear hrb hcb hb
  go_wp2_with fail
  go_ret2
  exact ⟨none, 0, rfl, Row.none_, by simp, HB.out⟩
set_option maxHeartbeats 4000000 in
set_option maxRecDepth 100000 in
theorem ragain_ok (t : Int) (D A : Option Addr) (d al : List Int) (cd c : Nat) (w : World) (ht : I64 t) (h : d.length = al.length) (hl : al.length ≤ 70) (hxd : ∀ x ∈ d, I64 x) (hxa : ∀ x ∈ al, I64 x) (hrd : Row w 0 D (ints d)) (hra : Row w 0 A (ints al)) (hs0 : I64 d.sum) (hs : I64 (t - d.sum)) (hE : outE (t - d.sum) al = 0) :
    Calls Try.prog 15 #[.int .i64 t, .slice D d.length cd, .slice A al.length c] w (RetL w (againV t d al) (againE t d al)) := by
  obtain ⟨l1, l2⟩ := left_yes hs0 hs
  have HG := outV_good hE
  have hvI := HG.I hs
  have hvl := HG.len
  have hn1 := (wE_ok (outE_ok hE).1).2.2.2.2
  have HAO := Lib.hid (fun k (hk : k < _) h4 => again_over (k := k) h l1 (by rw [l2]; exact hE) hk h4)
  have HOK := Lib.hid (again_ok h l1 (by rw [l2]; exact hE))
  rw [l2] at HAO HOK
  have HT := Lib.hid (fun w1 (hr : Row w1 0 D (ints d)) => total_any (fun _ => True) D d cd w1 (fun _ _ => trivial) hxd hr (by omega))
  have HRD := Lib.hid hrd
  have HTI := Lib.hid ht
  have HS := Lib.hid (fit_yes hs)
  have HS0 := Lib.hid (fit_yes hs0)
  have HO := Lib.hid (fun w1 (hr : Row w1 0 A (ints al)) => rout_own (t - d.sum) A al c w1 hs hxa hr hE)
  have HRA := Lib.hid hra
  clear HG hE
  generalize againV t d al = RV at *
  generalize againE t d al = RE at *
  generalize outV (t - d.sum) al = V at *
  generalize d.sum = S at *
  rw [h] at HT ⊢
  obtain ⟨n, hn⟩ : ∃ n, al.length = n := ⟨_, rfl⟩
  rw [hn] at h hl hvl hn1 HO HT HOK ⊢
  have HDN := Lib.hid h
  have HVN := Lib.hid hvl
  have HVI := Lib.hid hvI
  have HXD := Lib.hid hxd
  clear ht h hxd hxa hrd hra hs hs0 l1 l2 hvI hvl hn
  go_enter Try.func15, Try.ntmps15
  go_wp2_with fail
  refine (HT.out w HRD.out).mono ?_
  rintro e w1 ⟨v1, rfl, x1, b1⟩
  have X1 := Lib.hid x1
  have HB := Lib.hid b1
  clear x1 b1
  go_wp2_with fail
  refine (fit_is _ S (n + 7) _ X1.out (by omega) (by omega) S 0 HS0.out).mono ?_
  rintro e w2 ⟨rfl, b2⟩
  have HB := Lib.hid (HB.out.trans (b2.mono HB.out.size))
  clear b2 X1
  go_wp2_with fail
  refine (of_any (fun _ => True) t _ (fun _ _ => trivial) HTI.out).mono ?_
  rintro e w3 ⟨v3, rfl, x3, b3⟩
  have X3 := Lib.hid x3
  have HB := Lib.hid (HB.out.trans (b3.mono HB.out.size))
  clear x3 b3
  go_wp2_with fail
  refine (HT.out w3 (HRD.out.below HB.out)).mono ?_
  rintro e w4 ⟨v4, rfl, x4, b4⟩
  have X3 := Lib.hid (X3.out.below b4)
  have X4 := Lib.hid x4
  have HB := Lib.hid (HB.out.trans (b4.mono HB.out.size))
  clear x4 b4
  go_wp2_with fail
  refine (Exact.less_any (fun _ => True) _ _ t S (n + 7) _ (fun _ _ => trivial) (X3.out.more (by omega)) X4.out (by omega)).mono ?_
  rintro e w5 ⟨v5, rfl, x5, b5⟩
  have X5 := Lib.hid x5
  have HB := Lib.hid (HB.out.trans (b5.mono HB.out.size))
  clear x5 b5 X3 X4
  go_wp2_with fail
  refine (fit_is _ (t - S) (n + 7 + 1) _ X5.out (by omega) (by omega) (t - S) 0 HS.out).mono ?_
  rintro e w6 ⟨rfl, b6⟩
  have HB := Lib.hid (HB.out.trans (b6.mono HB.out.size))
  clear b6 X5 HT
  go_wp2_with fail
  refine (HO.out _ (HRA.out.below HB.out)).mono ?_
  rintro e w7 ⟨v, rfl, hall⟩
  obtain ⟨g, cb, rfl, hcap⟩ := hall.form HVN.out hn1
  have HA := Lib.hid (show AllW w (mix V d 0) (.slice (some ⟨g, 0, none⟩) n cb) w7 by rw [mix_zero]; exact all_inB hall HB.out)
  clear hall HO HB
  go_wp2_with fail
  go_loopw [14] (fun i wr => ∃ k : Nat, i = .int .i64 (k : Int) ∧ k ≤ n ∧ (∀ i, i < k → I64 (V.getD i 0 + d.getD i 0)) ∧ AllW w (mix V d k) (.slice (some ⟨g, 0, none⟩) n cb) wr) (fun i _ => n - (intOf i).toNat)
  case atStart => exact ⟨0, rfl, by omega, fun i hi => by omega, HA.out⟩
  case round =>
    clear HA
    obtain ⟨k, rfl, hk, hok, ha⟩ := hrel
    have HK := Lib.hid hok
    have HA := Lib.hid ha
    clear hok ha
    have g0 : (0 : Int) ≤ (k : Int) := Int.natCast_nonneg _
    by_cases hlt : k < n
    · obtain ⟨dd, hdd, c0⟩ := int_cell (HRD.out.below HA.out.be) (j := k) (by rw [HDN.out]; exact hlt)
      cases hdd
      have c1 := HA.out.cell (by rw [mix_len]; exact HVN.out) hlt
      rw [mix_get (by rw [HVN.out]; exact hlt)] at c1
      have hst := mix_step (V := V) (d := d) (k := k) (by rw [HVN.out]; exact hlt)
      have g1 : (k : Int) < (n : Int) := by omega
      have i1 := getD_I HVI.out (i := k) (by rw [HVN.out]; exact hlt)
      have i2 := getD_I HXD.out (i := k) (by rw [HDN.out]; exact hlt)
      have hov := HAO.out k (by rw [HVN.out]; exact hlt)
      have HKK := Lib.hid (fun (hi : I64 (V.getD k 0 + d.getD k 0)) i (hik : i < k + 1) => show I64 (V.getD i 0 + d.getD i 0) from by
        rcases Nat.lt_or_ge i k with q | q
        · exact HK.out i q
        · rw [show i = k by omega]; exact hi)
      have HCX := Lib.hid (fun (W : World) (hb : AllW w (mix V d k) (.slice (some ⟨g, 0, none⟩) n cb) W) => show W.cell? ⟨g, k, none⟩ = some (.int .i64 (V.getD k 0)) ∧ W.cell? (dd.add k) = some (.int .i64 (d.getD k 0)) from ⟨by
        have := hb.cell (by rw [mix_len]; exact HVN.out) hlt
        rw [mix_get (by rw [HVN.out]; exact hlt)] at this
        exact this, by
        obtain ⟨dd', hdd', this⟩ := int_cell (HRD.out.below hb.be) (j := k) (by rw [HDN.out]; exact hlt)
        cases hdd'
        exact this⟩)
      obtain ⟨a1, a2⟩ := HCX.out wr HA.out
      clear c0 c1
      generalize V.getD k 0 = x at *
      generalize d.getD k 0 = y at *
      have HST := Lib.hid hst
      have HOV := Lib.hid hov
      have I1 := Lib.hid i1
      have I2 := Lib.hid i2
      clear hst hov HK i1 i2
      by_cases hs : I64 (x + y)
      · have HFT := Lib.hid (fit_yes hs)
        have HSI := Lib.hid hs
        clear hs
        go_wp2_with fail
        have HL := Lib.hid ((Later.refl wr).drew)
        go_region_held3 (fun W' => W'.cell? ⟨g, k, none⟩ = some (.int .i64 x) ∧ W'.cell? (dd.add k) = some (.int .i64 y))
          (first | (go_split_ands; exact ⟨b1, b2⟩) | (go_keep; done))
          (first
            | (go_at_call_of 27 (Value.int IntKind.i64 x); refine (of_any (fun _ => True) x _ (fun _ _ => trivial) I1.out).mono ?_; rintro e w8 ⟨v8, rfl, x8, hb⟩; have HL := Lib.hid (Later.trans HL.out hb); have X8 := Lib.hid x8; clear x8 hb; have b1 := HL.out.cell a1; have b2 := HL.out.cell a2)
            | (go_at_call 27; refine (of_any (fun _ => True) y _ (fun _ _ => trivial) I2.out).mono ?_; rintro e w9 ⟨v9, rfl, x9, hb⟩; have X8 := Lib.hid (X8.out.below hb); have HL := Lib.hid (Later.trans HL.out hb); have X9 := Lib.hid x9; clear x9 hb; have b1 := HL.out.cell a1; have b2 := HL.out.cell a2)
            | (go_at_call 26; refine (plus_any (fun _ => True) _ _ x y 7 _ (fun _ _ => trivial) X8.out X9.out (by decide)).mono ?_; rintro e w10 ⟨v10, rfl, x10, hb⟩; have HL := Lib.hid (Later.trans HL.out hb); have X10 := Lib.hid x10; clear x10 hb; have b1 := HL.out.cell a1; have b2 := HL.out.cell a2)
            | (go_at_call 28; refine (fit_is _ (x + y) 8 _ X10.out (by decide) (by decide) (x + y) 0 HFT.out).mono ?_; rintro e w11 ⟨rfl, hb⟩; have HL := Lib.hid (Later.trans HL.out hb); clear hb; have b1 := HL.out.cell a1; have b2 := HL.out.cell a2))
        all_goals
          have HA11 := Lib.hid (HA.out.later HL.out)
          have q9 := HA11.out.free (by rw [mix_len]; exact HVN.out) k
          have HA12 := Lib.hid (HA11.out.set (by rw [mix_len]; exact HVN.out) k (x + y))
          rw [HST.out] at HA12
          go_wp2_with fail
          go_roundw
          case rel => exact ⟨k + 1, by go_num, by omega, HKK.out HSI.out, HA12.out⟩
          case measure => simp only [intOf]; omega
      · have HFT := Lib.hid (fit_no hs)
        obtain ⟨e1, e2⟩ := HOV.out hs
        have E1 := Lib.hid e1
        have E2 := Lib.hid e2
        clear e1 e2 hs HOV
        go_wp2_with fail
        have HL := Lib.hid ((Later.refl wr).drew)
        go_region_held3 (fun W' => W'.cell? ⟨g, k, none⟩ = some (.int .i64 x) ∧ W'.cell? (dd.add k) = some (.int .i64 y))
          (first | (go_split_ands; exact ⟨b1, b2⟩) | (go_keep; done))
          (first
            | (go_at_call_of 27 (Value.int IntKind.i64 x); refine (of_any (fun _ => True) x _ (fun _ _ => trivial) I1.out).mono ?_; rintro e w8 ⟨v8, rfl, x8, hb⟩; have HL := Lib.hid (Later.trans HL.out hb); have X8 := Lib.hid x8; clear x8 hb; have b1 := HL.out.cell a1; have b2 := HL.out.cell a2)
            | (go_at_call 27; refine (of_any (fun _ => True) y _ (fun _ _ => trivial) I2.out).mono ?_; rintro e w9 ⟨v9, rfl, x9, hb⟩; have X8 := Lib.hid (X8.out.below hb); have HL := Lib.hid (Later.trans HL.out hb); have X9 := Lib.hid x9; clear x9 hb; have b1 := HL.out.cell a1; have b2 := HL.out.cell a2)
            | (go_at_call 26; refine (plus_any (fun _ => True) _ _ x y 7 _ (fun _ _ => trivial) X8.out X9.out (by decide)).mono ?_; rintro e w10 ⟨v10, rfl, x10, hb⟩; have HL := Lib.hid (Later.trans HL.out hb); have X10 := Lib.hid x10; clear x10 hb; have b1 := HL.out.cell a1; have b2 := HL.out.cell a2)
            | (go_at_call 28; refine (fit_is _ (x + y) 8 _ X10.out (by decide) (by decide) 0 3 HFT.out).mono ?_; rintro e w11 ⟨rfl, hb⟩; have HL := Lib.hid (Later.trans HL.out hb); clear hb; have b1 := HL.out.cell a1; have b2 := HL.out.cell a2))
        all_goals
          have HA11 := Lib.hid (HA.out.later HL.out)
          go_wp2_with fail
          go_ret2
          rw [E1.out, E2.out]
          exact ⟨none, 0, rfl, Row.none_, by simp, HA11.out.be⟩
    · obtain rfl : k = n := by omega
      obtain ⟨e1, e2⟩ := HOK.out (fun i hi => HK.out i (by rw [HVN.out] at hi; exact hi))
      have E1 := Lib.hid e1
      have E2 := Lib.hid e2
      clear e1 e2
      go_wp2_with fail
      go_ret2
      rw [E1.out, E2.out]
      exact RetA.toL ⟨_, rfl, HA.out⟩
theorem ragain_any (t : Int) (D A : Option Addr) (d al : List Int) (cd c : Nat) (w : World) (ht : I64 t) (hd : d.length ≤ 70) (hl : al.length ≤ 70) (hxd : ∀ x ∈ d, I64 x) (hxa : ∀ x ∈ al, I64 x) (hrd : Row w 0 D (ints d)) (hra : Row w 0 A (ints al)) :
    Calls Try.prog 15 #[.int .i64 t, .slice D d.length cd, .slice A al.length c] w (RetL w (againV t d al) (againE t d al)) := by
  by_cases h : d.length = al.length
  · by_cases h1 : I64 d.sum
    · by_cases h2 : I64 (t - d.sum)
      · by_cases h3 : outE (t - d.sum) al = 0
        · exact ragain_ok t D A d al cd c w ht h hl hxd hxa hrd hra h1 h2 h3
        · exact ragain_no t D A d al cd c w ht h hl hxd hxa hrd hra h1 h2 h3
      · exact ragain_o2 t D A d al cd c w ht h hl hxd hxa hrd hra h1 h2
    · exact ragain_o1 t D A d al cd c w ht h hl hxd hxa hrd hra h1
  · exact ragain_bad t D A d al cd c w h hd hl
section
open Go.RowKit Go.Proofs.Ytkceeifhnohioaa.Cents Go.Proofs.Ytkceeifhnohioaa.CO Go.Proofs.Ytkceeifhnohioaa.Exact
set_option linter.unusedVariables false
set_option linter.unusedSimpArgs false

/-- So far none is wrong. -/
def RiseTo (wh : List Int) (most k : Nat) : Prop := ∀ i, i < k → 0 ≤ wh.getD i 0 ∧ wh.getD i 0 < (most : Int) ∧ (0 < i → wh.getD (i - 1) 0 < wh.getD i 0)
theorem RiseTo.zero (wh : List Int) (most : Nat) : RiseTo wh most 0 := fun i hi => by omega
theorem RiseTo.step {wh : List Int} {most k : Nat} (h : RiseTo wh most k) (h1 : 0 ≤ wh.getD k 0 ∧ wh.getD k 0 < (most : Int) ∧ (0 < k → wh.getD (k - 1) 0 < wh.getD k 0)) : RiseTo wh most (k + 1) := fun i hi => by
  rcases Nat.lt_or_ge i k with q | q
  · exact h i q
  · rw [show i = k by omega]; exact h1
theorem RiseTo.less {wh : List Int} {most k : Nat} (h : RiseTo wh most k) : ∀ b a, a < b → b < k → wh.getD a 0 < wh.getD b 0 := by
  intro b
  induction b with
  | zero => intro a h1; omega
  | succ b ih =>
    intro a h1 h2
    have h3 := (h (b + 1) h2).2.2 (by omega)
    rw [Nat.add_sub_cancel] at h3
    rcases Nat.lt_or_ge a b with q | q
    · have := ih a q (by omega); omega
    · rw [show a = b by omega]; exact h3
theorem rises_iff {wh : List Int} {most : Nat} : Rises wh most ↔ wh ≠ [] ∧ RiseTo wh most wh.length := by
  constructor
  · rintro ⟨h0, h1, h2⟩
    refine ⟨h0, fun i hi => ?_⟩
    have e : ∀ j (hj : j < wh.length), wh.getD j 0 = wh[j] := fun j hj => by simp [List.getD_eq_getElem?_getD, hj]
    have := h1 _ (List.getElem_mem hi)
    rw [e i hi]
    refine ⟨this.1, this.2, fun hp => ?_⟩
    rw [e (i - 1) (by omega)]
    exact List.pairwise_iff_getElem.1 h2 (i - 1) i (by omega) hi (by omega)
  · rintro ⟨h0, h1⟩
    have e : ∀ j (hj : j < wh.length), wh.getD j 0 = wh[j] := fun j hj => by simp [List.getD_eq_getElem?_getD, hj]
    refine ⟨h0, fun x hx => ?_, ?_⟩
    · obtain ⟨i, hi, rfl⟩ := List.getElem_of_mem hx
      have := h1 i hi
      rw [e i hi] at this
      exact ⟨this.1, this.2.1⟩
    · rw [List.pairwise_iff_getElem]
      intro i j hi hj hij
      have := h1.less j i hij hj
      rw [e i hi, e j hj] at this
      exact this
/-- k of the row are ahead of place i. -/
structure PosW (wh : List Int) (i k : Nat) : Prop where
  le : k ≤ wh.length
  lo : ∀ j, j < k → wh.getD j 0 < (i : Int)
  hi : ∀ j, k ≤ j → j < wh.length → (i : Int) ≤ wh.getD j 0
theorem PosW.zero {wh : List Int} {most : Nat} (h : RiseTo wh most wh.length) : PosW wh 0 0 := ⟨Nat.zero_le _, fun j hj => by omega, fun j _ hj => (h j hj).1⟩
theorem PosW.hit {wh : List Int} {most i k : Nat} (hr : RiseTo wh most wh.length) (h : PosW wh i k) (hk : k < wh.length) (he : wh.getD k 0 = (i : Int)) : PosW wh (i + 1) (k + 1) :=
  ⟨hk, fun j hj => by
    rcases Nat.lt_or_ge j k with q | q
    · have := h.lo j q; omega
    · rw [show j = k by omega, he]; omega, fun j h1 h2 => by have := hr.less j k (by omega) h2; omega⟩
theorem PosW.miss {wh : List Int} {most i k : Nat} (hr : RiseTo wh most wh.length) (h : PosW wh i k) (hn : k < wh.length → wh.getD k 0 ≠ (i : Int)) : PosW wh (i + 1) k :=
  ⟨h.le, fun j hj => by have := h.lo j hj; omega, fun j h1 h2 => by
    have h3 := hn (by omega)
    have h4 := h.hi k (Nat.le_refl _) (by omega)
    rcases Nat.lt_or_ge k j with q | q
    · have := hr.less j k q h2; omega
    · rw [show j = k by omega]; omega⟩
theorem PosW.all {wh : List Int} {n k : Nat} (hr : RiseTo wh n wh.length) (h : PosW wh n k) : k = wh.length := by
  rcases Nat.lt_or_ge k wh.length with q | q
  · have h1 := h.hi k (Nat.le_refl _) q
    have h2 := (hr k q).2.1
    omega
  · have := h.le; omega
/-- What the others have, of the first i, k of which are of the row. -/
def othS (al wh : List Int) (i k : Nat) : Int := (al.take i).sum - (pick al (wh.take k)).sum
theorem oth_zero (al wh : List Int) : othS al wh 0 0 = 0 := by simp [othS, pick]
theorem oth_hit {al wh : List Int} {i k : Nat} (hi : i < al.length) (hk : k < wh.length) (he : wh.getD k 0 = (i : Int)) : othS al wh (i + 1) (k + 1) = othS al wh i k := by
  unfold othS
  rw [pick_snoc al wh hk, he, List.sum_append, List.take_succ_eq_append_getElem hi, List.sum_append]
  have e : al.getD i 0 = al[i] := by simp [List.getD_eq_getElem?_getD, hi]
  rw [Int.toNat_natCast, e]
  simp
  omega
theorem oth_miss {al wh : List Int} {i k : Nat} (hi : i < al.length) : othS al wh (i + 1) k = othS al wh i k + al.getD i 0 := by
  unfold othS
  have e : al.getD i 0 = al[i] := by simp [List.getD_eq_getElem?_getD, hi]
  rw [List.take_succ_eq_append_getElem hi, List.sum_append, e]
  simp
  omega
theorem someG_of {p : Int} {al wh : List Int} (h0 : 0 ≤ p) (h1 : ∀ i, i < al.length → 0 ≤ al.getD i 0) (h2 : wh ≠ []) (h3 : RiseTo wh al.length wh.length) : someG p al wh :=
  ⟨h0, fun x hx => by
    obtain ⟨i, hi, rfl⟩ := List.getElem_of_mem hx
    have := h1 i hi
    rw [List.getD_eq_getElem?_getD, List.getElem?_eq_getElem hi, Option.getD_some] at this
    omega, rises_iff.2 ⟨h2, h3⟩⟩
set_option maxHeartbeats 1000000 in
set_option maxRecDepth 100000 in
theorem rsome_bad (p : Int) (A W : Option Addr) (al wh : List Int) (c d : Nat) (w : World) (h : ¬ someG p al wh) (hxw : ∀ x ∈ wh, I64 x) (hra : Row w 0 A (ints al)) (hrw : Row w 0 W (ints wh)) (hl : al.length ≤ 70) (hm : wh.length ≤ 70) :
    Calls Try.prog 11 #[.int .i64 p, .slice A al.length c, .slice W wh.length d] w (RetL w (someV p al wh) (someE p al wh)) := by
  obtain ⟨e1, e2⟩ := some_no h
  rw [e1, e2]
  by_cases h0 : p < 0 ∨ wh = []
  · have h1 : p < 0 ∨ (0 ≤ p ∧ wh.length = 0) := by
      rcases h0 with q | q
      · exact .inl q
      · by_cases p0 : p < 0
        · exact .inl p0
        · exact .inr ⟨by omega, by rw [q]; rfl⟩
    generalize al.length = n at *
    generalize wh.length = m at *
    clear h hxw hra hrw e1 e2 h0
    rcases h1 with q | ⟨q1, q2⟩
    · go_enter Try.func11, Try.ntmps11
      go_wp2_with fail
      go_ret2
      exact ⟨none, 0, rfl, Row.none_, by simp, Below.refl _ _⟩
    · subst q2
      go_enter Try.func11, Try.ntmps11
      go_wp2_with fail
      go_ret2
      exact ⟨none, 0, rfl, Row.none_, by simp, Below.refl _ _⟩
  · have hp0 : 0 ≤ p := by omega
    have hne : wh ≠ [] := fun e => h0 (.inr e)
    have hm1 : 1 ≤ wh.length := List.length_pos_iff.2 hne
    have HBAD := Lib.hid (fun (h1 : ∀ i, i < al.length → 0 ≤ al.getD i 0) (h3 : RiseTo wh al.length wh.length) => h (someG_of hp0 h1 hne h3))
    have HRA := Lib.hid hra
    have HRW := Lib.hid hrw
    obtain ⟨n, hn⟩ : ∃ n, al.length = n := ⟨_, rfl⟩
    obtain ⟨m, hmm⟩ : ∃ m, wh.length = m := ⟨_, rfl⟩
    have HN := Lib.hid hn
    have HM := Lib.hid hmm
    rw [hn, hmm] at HBAD
    rw [hn] at hl ⊢
    rw [hmm] at hm hm1 ⊢
    have z1 : ((m : Int) == 0) = false := by simp; omega
    have z2 : ¬ (m : Int) = 0 := by omega
    have z3 : ¬ p < 0 := by omega
    clear h hxw hra hrw e1 e2 h0 hne hn hmm
    go_enter Try.func11, Try.ntmps11
    go_wp2_with fail
    go_loop [8] (fun i => ∃ k : Nat, i = .int .i64 (k : Int) ∧ k ≤ n ∧ ∀ i, i < k → 0 ≤ al.getD i 0) (fun i => n - (intOf i).toNat)
    case atStart => exact ⟨0, rfl, by omega, fun i hi => by omega⟩
    case round =>
      obtain ⟨k, rfl, hk, hno⟩ := hrel
      have HNO := Lib.hid hno
      clear hno
      have g0 : (0 : Int) ≤ (k : Int) := Int.natCast_nonneg _
      by_cases hlt : k < n
      · obtain ⟨ad, rfl, c0⟩ := int_cell HRA.out (j := k) (by rw [HN.out]; exact hlt)
        have g1 : (k : Int) < (n : Int) := by omega
        by_cases hy : al.getD k 0 < 0
        · generalize al.getD k 0 = y at *
          go_wp2_with fail
          go_ret2
          exact ⟨none, 0, rfl, Row.none_, by simp, Below.refl _ _⟩
        · have HY := Lib.hid (show ∀ i, i < k + 1 → 0 ≤ al.getD i 0 from fun i hi => by
            rcases Nat.lt_or_ge i k with q | q
            · exact HNO.out i q
            · rw [show i = k by omega]; omega)
          generalize al.getD k 0 = y at *
          go_wp2_with fail
          go_round
          case rel => exact ⟨k + 1, by go_num, by omega, HY.out⟩
          case measure => simp [intOf]; omega
      · obtain rfl : k = n := by omega
        have HB2 := Lib.hid (HBAD.out HNO.out)
        clear HBAD HNO
        go_wp2_with fail
        go_loopw [9] (fun i wr => ∃ j : Nat, i = .int .i64 (j : Int) ∧ j ≤ m ∧ RiseTo wh k j ∧ Below w.heap.size w wr) (fun i _ => m - (intOf i).toNat)
        case atStart => exact ⟨0, rfl, by omega, RiseTo.zero _ _, Below.refl _ _⟩
        case round =>
          obtain ⟨j, rfl, hj, hri, hb⟩ := hrel
          have HRI := Lib.hid hri
          have HB := Lib.hid hb
          clear hri hb
          have g2 : (0 : Int) ≤ (j : Int) := Int.natCast_nonneg _
          by_cases hjm : j < m
          · obtain ⟨wd, rfl, c0⟩ := int_cell (HRW.out.below HB.out) (j := j) (by rw [HM.out]; exact hjm)
            have g3 : (j : Int) < (m : Int) := by omega
            by_cases hj0 : j = 0
            · have hst := fun h1 => HRI.out.step h1
              generalize wh.getD j 0 = x at *
              have HST := Lib.hid hst
              have HJ0 := Lib.hid hj0
              have f1 : ¬ (0 : Int) < (j : Int) := by omega
              clear hst hj0
              by_cases q1 : x < 0
              · have d1 : decide (x < 0) = true := by simp; omega
                go_wp2_with fail
                go_quiet (fail)
                go_wp2_with fail
                go_ret2
                exact ⟨none, 0, rfl, Row.none_, by simp, HB.out.trans ((Quiet.below ⟨nq, rfl⟩).mono HB.out.size)⟩
              · have d1 : decide (x < 0) = false := by simp; omega
                by_cases q2 : (k : Int) ≤ x
                · have d2 : decide ((k : Int) ≤ x) = true := by simp; omega
                  go_wp2_with fail
                  go_quiet (fail)
                  go_wp2_with fail
                  go_ret2
                  exact ⟨none, 0, rfl, Row.none_, by simp, HB.out.trans ((Quiet.below ⟨nq, rfl⟩).mono HB.out.size)⟩
                · have HR1 := Lib.hid (HST.out ⟨by omega, by omega, fun h => by have := HJ0.out; omega⟩)
                  have d2 : decide ((k : Int) ≤ x) = false := by simp; omega
                  have d3 : decide (0 < j) = false := by have := HJ0.out; simp; omega
                  go_wp2_with fail
                  go_quiet (fail)
                  go_wp2_with fail
                  go_roundw
                  case rel => exact ⟨j + 1, by go_num, by omega, HR1.out, HB.out.trans ((Quiet.below ⟨nq, rfl⟩).mono HB.out.size)⟩
                  case measure => simp [intOf]; omega
            · obtain ⟨i, hi⟩ : ∃ i : Nat, j = i + 1 := ⟨j - 1, by omega⟩
              obtain ⟨wd', hwd', c1⟩ := int_cell (HRW.out.below HB.out) (j := i) (by rw [HM.out]; omega)
              cases hwd'
              have hst := fun h1 => HRI.out.step h1
              rw [show j - 1 = i by omega] at hst
              generalize wh.getD j 0 = x at *
              generalize wh.getD i 0 = x0 at *
              have HST := Lib.hid hst
              clear hst
              have f1 : (0 : Int) < (j : Int) := by omega
              have f2 : (j : Int) - 1 = (i : Int) := by omega
              have f3 : IntKind.i64.wrap ((j : Int) - 1) = (j : Int) - 1 := IntWalk.i64_in _ (by omega)
              have f4 : (0 : Int) ≤ (i : Int) := Int.natCast_nonneg _
              have f5 : (i : Int) < (m : Int) := by omega
              have f6 : ((j : Int) - 1).toNat = i := by omega
              have f7 : 1 ≤ j := by omega
              have f8 : (1 : Int) ≤ (j : Int) := by omega
              clear hi hj0
              by_cases q1 : x < 0
              · have d1 : decide (x < 0) = true := by simp; omega
                go_wp2_with fail
                go_quiet (fail)
                go_wp2_with fail
                go_ret2
                exact ⟨none, 0, rfl, Row.none_, by simp, HB.out.trans ((Quiet.below ⟨nq, rfl⟩).mono HB.out.size)⟩
              · have d1 : decide (x < 0) = false := by simp; omega
                by_cases q2 : (k : Int) ≤ x
                · have d2 : decide ((k : Int) ≤ x) = true := by simp; omega
                  go_wp2_with fail
                  go_quiet (fail)
                  go_wp2_with fail
                  go_ret2
                  exact ⟨none, 0, rfl, Row.none_, by simp, HB.out.trans ((Quiet.below ⟨nq, rfl⟩).mono HB.out.size)⟩
                · have d2 : decide ((k : Int) ≤ x) = false := by simp; omega
                  have d3 : decide (0 < j) = true := by simp; omega
                  by_cases q3 : x ≤ x0
                  · have d4 : decide (x ≤ x0) = true := by simp; omega
                    go_wp2_with fail
                    go_quiet (fail)
                    go_wp2_with fail
                    go_ret2
                    exact ⟨none, 0, rfl, Row.none_, by simp, HB.out.trans ((Quiet.below ⟨nq, rfl⟩).mono HB.out.size)⟩
                  · have HR1 := Lib.hid (HST.out ⟨by omega, by omega, fun h => by omega⟩)
                    have d4 : decide (x ≤ x0) = false := by simp; omega
                    go_wp2_with fail
                    go_quiet (fail)
                    go_wp2_with fail
                    go_roundw
                    case rel => exact ⟨j + 1, by go_num, by omega, HR1.out, HB.out.trans ((Quiet.below ⟨nq, rfl⟩).mono HB.out.size)⟩
                    case measure => simp [intOf]; omega
          · obtain rfl : j = m := by omega
            exact (HB2.out HRI.out).elim
end
end Go.Proofs.Ytkceeifhnohioaa.PO
