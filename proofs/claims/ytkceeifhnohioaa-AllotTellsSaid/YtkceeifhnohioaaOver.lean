/- The walk of the reference's Over, of any number. -/
import Derived.Test.YtkceeifhnohioaaOverC
namespace Go.Proofs.Ytkceeifhnohioaa.Exact
open Go.RowKit Go.Proofs.Ytkceeifhnohioaa.Cents
set_option linter.unusedVariables false
set_option linter.unusedSimpArgs false

set_option maxHeartbeats 2000000 in
set_option maxRecDepth 100000 in
theorem over_below (F : Nat → Prop) (va vb : Value) (a b : Int) (k : Nat) (w : World) (hF : New w F) (ha : Ex w F va a k) (hb : Ex w F vb b k) (hk7 : 7 ≤ k) (hk : k ≤ 900) (h0 : a < 0) (h1 : 1 ≤ b) (h2 : -a + b < 2 ^ 200) :
    Calls Try.prog 46 #[va, vb] w (RetEx w F (a / b) (k + 600)) := by
  have H2 := Lib.hid h2
  have HF := Lib.hid hF
  have HA := Lib.hid (ha.but (X := w.heap.size + 2) (by omega))
  have HB := Lib.hid (hb.but (X := w.heap.size + 2) (by omega))
  have HEQ := Lib.hid (EM.over_neg h1 h0)
  clear h2 hF
  obtain ⟨da, A, ca, rfl, _⟩ := ha
  obtain ⟨db, B, cb, rfl, _⟩ := hb
  obtain ⟨sa, hsa⟩ : ∃ x, EM.sgn a = x := ⟨_, rfl⟩
  obtain ⟨sb, hsb⟩ : ∃ x, EM.sgn b = x := ⟨_, rfl⟩
  have hsp : sa < 0 := by rw [← hsa]; unfold EM.sgn; rw [if_pos h0]; omega
  rw [hsa] at HA
  rw [hsb] at HB
  rw [hsa, hsb]
  clear hsa hsb
  generalize da.length = na at *
  generalize db.length = nb at *
  go_enter Try.func46, Try.ntmps46
  go_wp2_with fail
  have hbx := Box2.start w sa sb A B na nb ca cb
  generalize (((w.alloc (.cells #[.int .i64 sa, .slice A na ca] 47)).alloc (.cells #[.int .i64 sb, .slice B nb cb] 47)).alloc (.cells #[.int .i64 0, .slice none 0 0] 47)) = W at hbx ⊢
  have HX := Lib.hid hbx
  obtain ⟨e1, e2, e3, e4, e5, e6, f5, f6⟩ := hbx.cells
  have HA := Lib.hid (HA.out.below hbx.be)
  have HB := Lib.hid (HB.out.below hbx.be)
  have HNF := Lib.hid (HF.out.but hbx.be.size hbx.res.lt)
  have HL := Lib.hid ((Later.refl W).drew)
  clear hbx
  go_region_held3 (fun w' => w'.cell? ⟨w.heap.size, 0, none⟩ = some (.int .i64 sa) ∧ w'.cell? ⟨w.heap.size, 1, none⟩ = some (.slice A na ca) ∧ w'.cell? ⟨w.heap.size + 1, 0, none⟩ = some (.int .i64 sb) ∧ w'.cell? ⟨w.heap.size + 1, 1, none⟩ = some (.slice B nb cb))
    (first | (go_split_ands; exact ⟨c1, c2, c3, c4⟩) | (go_keep; done) | ((try dsimp only); (repeat' apply And.intro); all_goals (rw [set2_other (by omega)]; assumption)))
    (first
      | (go_at_call_of 43 (Value.agg #[.int .i64 sa, .slice A na ca]); refine (neg_any (But F (w.heap.size + 2)) _ a k _ ?_).mono ?_; exact HA.out.later HL.out; rintro e w1 ⟨v1, rfl, hx1, hb⟩; (try (have HO := Lib.hid (Ex.below HO.out hb))); (try (have HP := Lib.hid (Ex.below HP.out hb))); (try (have HS := Lib.hid (Ex.below HS.out hb))); (try (have HV := Lib.hid (Ex.below HV.out hb))); have HL := Lib.hid (Later.trans HL.out hb); have HN := Lib.hid hx1; clear hx1 hb; have c1 := HL.out.cell e1; have c2 := HL.out.cell e2; have c3 := HL.out.cell e3; have c4 := HL.out.cell e4)
      | (go_at_call 27; refine (of_any (But F (w.heap.size + 2)) 1 _ ?_ ?_).mono ?_; exact HNF.out.later HL.out.size; exact (by decide); rintro e w2 ⟨v2, rfl, hx2, hb⟩; (try (have HN := Lib.hid (Ex.below HN.out hb))); (try (have HP := Lib.hid (Ex.below HP.out hb))); (try (have HS := Lib.hid (Ex.below HS.out hb))); (try (have HV := Lib.hid (Ex.below HV.out hb))); have HL := Lib.hid (Later.trans HL.out hb); have HO := Lib.hid hx2; clear hx2 hb; have c1 := HL.out.cell e1; have c2 := HL.out.cell e2; have c3 := HL.out.cell e3; have c4 := HL.out.cell e4)
      | (go_at_call 26; refine (plus_any (But F (w.heap.size + 2)) _ _ (-a) b k _ ?_ ?_ ?_ (by omega)).mono ?_; exact HNF.out.later HL.out.size; exact HN.out; exact HB.out.later HL.out; rintro e w3 ⟨v3, rfl, hx3, hb⟩; (try (have HN := Lib.hid (Ex.below HN.out hb))); (try (have HO := Lib.hid (Ex.below HO.out hb))); (try (have HS := Lib.hid (Ex.below HS.out hb))); (try (have HV := Lib.hid (Ex.below HV.out hb))); have HL := Lib.hid (Later.trans HL.out hb); have HP := Lib.hid hx3; clear hx3 hb; have c1 := HL.out.cell e1; have c2 := HL.out.cell e2; have c3 := HL.out.cell e3; have c4 := HL.out.cell e4)
      | (go_at_call 46; refine (over_pos (But F (w.heap.size + 2)) _ _ (-a + b - 1) b (k + 2) _ ?_ ?_ ?_ (by omega) (by omega) h1 (by have := H2.out; omega)).mono ?_; exact HNF.out.later HL.out.size; exact HS.out; exact (HB.out.later HL.out).more (by omega); rintro e w5 ⟨v5, rfl, hx5, hb⟩; (try (have HN := Lib.hid (Ex.below HN.out hb))); (try (have HO := Lib.hid (Ex.below HO.out hb))); (try (have HP := Lib.hid (Ex.below HP.out hb))); (try (have HS := Lib.hid (Ex.below HS.out hb))); have HL := Lib.hid (Later.trans HL.out hb); have HV := Lib.hid hx5; clear hx5 hb; have c1 := HL.out.cell e1; have c2 := HL.out.cell e2; have c3 := HL.out.cell e3; have c4 := HL.out.cell e4)
      | (go_at_call 43; refine (neg_any (But F (w.heap.size + 2)) _ ((-a + b - 1) / b) (k + 502) _ ?_).mono ?_; exact HV.out; rintro e w6 ⟨v6, rfl, hx6, hb⟩; (try (have HN := Lib.hid (Ex.below HN.out hb))); (try (have HO := Lib.hid (Ex.below HO.out hb))); (try (have HP := Lib.hid (Ex.below HP.out hb))); (try (have HS := Lib.hid (Ex.below HS.out hb))); (try (have HV := Lib.hid (Ex.below HV.out hb))); have HL := Lib.hid (Later.trans HL.out hb); have HR := Lib.hid hx6; clear hx6 hb; have c1 := HL.out.cell e1; have c2 := HL.out.cell e2; have c3 := HL.out.cell e3; have c4 := HL.out.cell e4; obtain ⟨⟨s6, E6, l6, k6⟩, rfl⟩ := HR.out.xv; have HX6 := Lib.hid (HX.out.later HL.out); obtain ⟨d1, d2, d3, d4, d5, d6, d7, d8⟩ := HX6.out.cells; try dsimp only [XV.val])
      | (go_at_call 29; refine (less_any (But F (w.heap.size + 2)) _ _ (-a + b) 1 (k + 1) _ ?_ ?_ ?_ (by omega)).mono ?_; exact HNF.out.later HL.out.size; exact HP.out; exact HO.out.more (by omega); rintro e w4 ⟨v4, rfl, hx4, hb⟩; (try (have HN := Lib.hid (Ex.below HN.out hb))); (try (have HO := Lib.hid (Ex.below HO.out hb))); (try (have HP := Lib.hid (Ex.below HP.out hb))); (try (have HV := Lib.hid (Ex.below HV.out hb))); have HL := Lib.hid (Later.trans HL.out hb); have HS := Lib.hid hx4; clear hx4 hb; have c1 := HL.out.cell e1; have c2 := HL.out.cell e2; have c3 := HL.out.cell e3; have c4 := HL.out.cell e4))
  all_goals
    go_wp2_with fail
    have hq := HEQ.out
    obtain ⟨ds, A', c', hv, k1, k2, k3, k4⟩ := HR.out
    simp only [XV.val, Value.agg.injEq, Array.mk.injEq, List.cons.injEq, Value.slice.injEq, Value.int.injEq, and_true, true_and] at hv
    obtain ⟨rfl, rfl, rfl, rfl⟩ := hv
    refine bodyPost_ret (v := .agg #[.int .i64 (EM.sgn (-((-a + b - 1) / b))), .slice E6 ds.length k6]) (by simp [results, Try.results46, go_sem, d5, d6]) rfl ⟨_, rfl, ?_, ?_⟩
    · refine ⟨ds, E6, k6, by rw [← hq], k1, by omega, ?_, by rw [← hq]; exact k4⟩
      exact RowF.weak ((k3.setCell (fun h => h.2 rfl) _).setCell (fun h => h.2 rfl) _) (fun q hq _ => hq.1)
    · exact (HX6.out.be.setCell (by simp; omega) _).setCell (by simp; omega) _

theorem over_any (F : Nat → Prop) (va vb : Value) (a b : Int) (k : Nat) (w : World) (hF : New w F) (ha : Ex w F va a k) (hb : Ex w F vb b k) (hk7 : 7 ≤ k) (hk : k ≤ 900) (h1 : 1 ≤ b) (h2 : -a + b < 2 ^ 200) (h3 : a < 2 ^ 200) :
    Calls Try.prog 46 #[va, vb] w (RetEx w F (a / b) (k + 600)) := by
  rcases Int.lt_or_le a 0 with c | c
  · exact over_below F va vb a b k w hF ha hb hk7 hk c h1 h2
  · exact (over_pos F va vb a b k w hF ha hb (by omega) c h1 h3).mono fun _ _ ⟨v, e1, e2, e3⟩ => ⟨v, e1, e2.more (by omega), e3⟩
end Go.Proofs.Ytkceeifhnohioaa.Exact
