/- The walks of the reference's Part and Rest. -/
import Derived.Test.YtkceeifhnohioaaOver
import Derived.Test.YtkceeifhnohioaaBy
import Derived.Test.YtkceeifhnohioaaFit
import Derived.Test.YtkceeifhnohioaaCentsPart
namespace Go.Proofs.Ytkceeifhnohioaa.Exact
open Go.RowKit Go.Proofs.Ytkceeifhnohioaa.Cents
set_option linter.unusedVariables false
set_option linter.unusedSimpArgs false

theorem prod_bound {a p : Int} (ha : I64 a) (hp : I64 p) : -(2 : Int) ^ 126 ≤ a * p ∧ a * p ≤ 2 ^ 126 := by
  have h1 : a.natAbs ≤ 9223372036854775808 := by have := ha.1; have := ha.2; omega
  have h2 : p.natAbs ≤ 9223372036854775808 := by have := hp.1; have := hp.2; omega
  have h3 := Nat.mul_le_mul h1 h2
  rw [← Int.natAbs_mul] at h3
  generalize a * p = x at *
  have e : (9223372036854775808 : Nat) * 9223372036854775808 = 2 ^ 126 := by decide +kernel
  rw [e] at h3
  have e2 : ((2 ^ 126 : Nat) : Int) = 2 ^ 126 := by decide +kernel
  omega
theorem p126 : (2 : Int) ^ 126 < 2 ^ 199 := by decide +kernel
theorem p199 : (2 : Int) ^ 199 + 9223372036854775808 < 2 ^ 200 := by decide +kernel
theorem over_ok {a p m : Int} (ha : I64 a) (hp : I64 p) (hm : I64 m) : -(a * p) + m < 2 ^ 200 ∧ a * p < 2 ^ 200 := by
  have h1 := prod_bound ha hp
  have h2 := p126
  have h3 := p199
  have h4 := hm.2
  omega
theorem fit_was (v : Value) (n : Int) (k : Nat) (w : World) (h : Ex w (fun _ => True) v n k) (hk : k ≤ 90000) (hk7 : 7 ≤ k) (x y : Int) (hx : fitN n = x ∧ fitE n = y) :
    Calls Try.prog 28 #[v] w fun e w' => e = .returned (.tuple #[.int .i64 x, .int .i64 y]) ∧ Below w.heap.size w w' :=
  (fit_any v n k w h hk hk7).mono fun _ _ ⟨h1, h2⟩ => ⟨by rw [h1]; unfold fitT; rw [hx.1, hx.2], h2⟩

set_option maxHeartbeats 2000000 in
set_option maxRecDepth 100000 in
theorem rpart_ok (a p m : Int) (w : World) (ha : I64 a) (hp : I64 p) (hm : I64 m) (h1 : 1 ≤ m) (h2 : 0 ≤ p) (x y : Int) (hx : fitN (a * p / m) = x ∧ fitE (a * p / m) = y) :
    Calls Try.prog 36 #[.int .i64 a, .int .i64 p, .int .i64 m] w fun e w' => e = .returned (.tuple #[.int .i64 x, .int .i64 y]) ∧ Below w.heap.size w w' := by
  have HOK := Lib.hid (over_ok ha hp hm)
  have HA := Lib.hid ha
  have HP := Lib.hid hp
  have HM := Lib.hid hm
  have HX := Lib.hid hx
  clear ha hp hm hx
  go_enter Try.func36, Try.ntmps36
  go_wp2_with fail
  refine (of_any (fun _ => True) a _ (fun _ _ => trivial) HA.out).mono ?_
  rintro e w1 ⟨v1, rfl, x1, b1⟩
  have HL := Lib.hid (show Later w w1 from b1)
  have X1 := Lib.hid x1
  clear x1 b1
  go_wp2_with fail
  refine (of_any (fun _ => True) p _ (fun _ _ => trivial) HP.out).mono ?_
  rintro e w2 ⟨v2, rfl, x2, b2⟩
  have HL := Lib.hid (HL.out.trans b2)
  have X1 := Lib.hid (X1.out.below b2)
  have X2 := Lib.hid x2
  clear x2 b2
  go_wp2_with fail
  refine (by_any (fun _ => True) _ _ a p 7 _ (fun _ _ => trivial) X1.out X2.out (by decide)).mono ?_
  rintro e w3 ⟨v3, rfl, x3, b3⟩
  have HL := Lib.hid (HL.out.trans b3)
  have X3 := Lib.hid x3
  clear x3 b3
  go_wp2_with fail
  refine (of_any (fun _ => True) m _ (fun _ _ => trivial) HM.out).mono ?_
  rintro e w4 ⟨v4, rfl, x4, b4⟩
  have HL := Lib.hid (HL.out.trans b4)
  have X3 := Lib.hid (X3.out.below b4)
  have X4 := Lib.hid x4
  clear x4 b4
  go_wp2_with fail
  refine (over_any (fun _ => True) _ _ (a * p) m 16 _ (fun _ _ => trivial) X3.out (X4.out.more (by decide)) (by decide) (by decide) h1 HOK.out.1 HOK.out.2).mono ?_
  rintro e w5 ⟨v5, rfl, x5, b5⟩
  have HL := Lib.hid (HL.out.trans b5)
  have X5 := Lib.hid x5
  clear x5 b5
  go_wp2_with fail
  refine (fit_was _ _ (16 + 600) _ X5.out (by decide) (by decide) x y HX.out).mono ?_
  rintro e w6 ⟨rfl, b6⟩
  have HL := Lib.hid (HL.out.trans b6)
  clear b6
  go_wp2_with fail
  go_ret2
  exact ⟨rfl, HL.out⟩

set_option maxHeartbeats 2000000 in
set_option maxRecDepth 100000 in
theorem rrest_ok (a p m : Int) (w : World) (ha : I64 a) (hp : I64 p) (hm : I64 m) (h1 : 1 ≤ m) (h2 : 0 ≤ p) (x y : Int) (hx : fitN (a * p % m) = x ∧ fitE (a * p % m) = y) :
    Calls Try.prog 37 #[.int .i64 a, .int .i64 p, .int .i64 m] w fun e w' => e = .returned (.tuple #[.int .i64 x, .int .i64 y]) ∧ Below w.heap.size w w' := by
  have HOK := Lib.hid (over_ok ha hp hm)
  have HA := Lib.hid ha
  have HP := Lib.hid hp
  have HM := Lib.hid hm
  have hx2 : fitN (a * p - a * p / m * m) = x ∧ fitE (a * p - a * p / m * m) = y := by
    have := Int.mul_ediv_add_emod (a * p) m
    rw [show a * p - a * p / m * m = a * p % m by rw [Int.mul_comm (a * p / m) m]; omega]; exact hx
  have HX := Lib.hid hx2
  clear ha hp hm hx hx2
  go_enter Try.func37, Try.ntmps37
  go_wp2_with fail
  refine (of_any (fun _ => True) a _ (fun _ _ => trivial) HA.out).mono ?_
  rintro e w1 ⟨v1, rfl, x1, b1⟩
  have HL := Lib.hid (show Later w w1 from b1)
  have X1 := Lib.hid x1
  clear x1 b1
  go_wp2_with fail
  refine (of_any (fun _ => True) p _ (fun _ _ => trivial) HP.out).mono ?_
  rintro e w2 ⟨v2, rfl, x2, b2⟩
  have HL := Lib.hid (HL.out.trans b2)
  have X1 := Lib.hid (X1.out.below b2)
  have X2 := Lib.hid x2
  clear x2 b2
  go_wp2_with fail
  refine (by_any (fun _ => True) _ _ a p 7 _ (fun _ _ => trivial) X1.out X2.out (by decide)).mono ?_
  rintro e w3 ⟨v3, rfl, x3, b3⟩
  obtain ⟨⟨s3, E3, l3, c3⟩, rfl⟩ := x3.xv
  have HL := Lib.hid (HL.out.trans b3)
  have X3 := Lib.hid x3
  clear x3 b3 X1 X2
  try dsimp only [XV.val]
  go_wp2_with fail
  have hlb := Below.alloc1 w3 (.cells #[.int .i64 s3, .slice E3 l3 c3] 47)
  have hbk := Blk.new w3 47 #[.int .i64 s3, .slice E3 l3 c3]
  generalize (w3.alloc (.cells #[.int .i64 s3, .slice E3 l3 c3] 47)) = W at hlb hbk ⊢
  have e1 : W.cell? ⟨w3.heap.size, 0, none⟩ = some (.int .i64 s3) := hbk.cell 0
  have e2 : W.cell? ⟨w3.heap.size, 1, none⟩ = some (.slice E3 l3 c3) := hbk.cell 1
  have HLW := Lib.hid (HL.out.trans hlb)
  have X3 := Lib.hid (X3.out.below hlb)
  have HL := Lib.hid ((Later.refl W).drew)
  clear hlb hbk
  go_region_held3 (fun w' => w'.cell? ⟨w3.heap.size, 0, none⟩ = some (.int .i64 s3) ∧ w'.cell? ⟨w3.heap.size, 1, none⟩ = some (.slice E3 l3 c3))
    (first | (go_split_ands; exact ⟨c1, c2⟩) | (go_keep; done))
    (first
      | (go_at_call 27; refine (of_any (fun _ => True) m _ (fun _ _ => trivial) HM.out).mono ?_; rintro e w4 ⟨v4, rfl, hx4, hb⟩; (try (have HV := Lib.hid (HV.out.below hb))); have HL := Lib.hid (Later.trans HL.out hb); have HO := Lib.hid hx4; clear hx4 hb; have c1 := HL.out.cell e1; have c2 := HL.out.cell e2)
      | (go_at_call 46; refine (over_any (fun _ => True) _ _ (a * p) m 16 _ (fun _ _ => trivial) ?_ ?_ (by decide) (by decide) h1 HOK.out.1 HOK.out.2).mono ?_; exact X3.out.below HL.out; exact HO.out.more (by decide); rintro e w5 ⟨v5, rfl, hx5, hb⟩; have HL := Lib.hid (Later.trans HL.out hb); have HV := Lib.hid hx5; clear hx5 hb; have c1 := HL.out.cell e1; have c2 := HL.out.cell e2)
      | (go_at_call 47; refine (by_any (fun _ => True) _ _ (a * p / m) m 616 _ (fun _ _ => trivial) ?_ ?_ (by decide)).mono ?_; exact HV.out; exact HO.out.more (by decide); rintro e w6 ⟨v6, rfl, hx6, hb⟩; have HL := Lib.hid (Later.trans HL.out hb); have HB := Lib.hid hx6; clear hx6 hb; have c1 := HL.out.cell e1; have c2 := HL.out.cell e2)
      | (go_at_call 29; refine (less_any (fun _ => True) _ _ (a * p) (a * p / m * m) 1234 _ (fun _ _ => trivial) ?_ ?_ (by decide)).mono ?_; exact (X3.out.below HL.out).more (by decide); exact HB.out; rintro e w7 ⟨v7, rfl, hx7, hb⟩; have HL := Lib.hid (Later.trans HL.out hb); have HS := Lib.hid hx7; clear hx7 hb; have c1 := HL.out.cell e1; have c2 := HL.out.cell e2)
      | (go_at_call 28; refine (fit_was _ _ 1235 _ ?_ (by decide) (by decide) x y HX.out).mono ?_; exact HS.out; rintro e w8 ⟨rfl, hb⟩; have HL := Lib.hid (Later.trans HL.out hb); clear hb; have c1 := HL.out.cell e1; have c2 := HL.out.cell e2))
  all_goals
    go_wp2_with fail
    go_ret2
    exact ⟨rfl, HLW.out.trans HL.out⟩
end Go.Proofs.Ytkceeifhnohioaa.Exact
