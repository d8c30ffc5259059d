/- The walk of the reference's Over, of what isn't below 0: both loops. -/
import Derived.Test.YtkceeifhnohioaaOverB
import Derived.StillTailTactics
namespace Go.Proofs.Ytkceeifhnohioaa.Exact
open Go.RowKit Go.Proofs.Ytkceeifhnohioaa.Cents
set_option linter.unusedVariables false
set_option linter.unusedSimpArgs false

set_option maxHeartbeats 2000000 in
set_option maxRecDepth 100000 in
theorem over_pos (F : Nat → Prop) (va vb : Value) (a b : Int) (k : Nat) (w : World) (hF : New w F) (ha : Ex w F va a k) (hb : Ex w F vb b k) (hk : k ≤ 1000) (h0 : 0 ≤ a) (h1 : 1 ≤ b) (h2 : a < 2 ^ 200) :
    Calls Try.prog 46 #[va, vb] w (RetEx w F (a / b) (k + 500)) := by
  have H2 := Lib.hid h2
  have HF := Lib.hid hF
  have HA := Lib.hid ha
  have HB := Lib.hid hb
  clear h2 hF
  obtain ⟨da, A, ca, rfl, _, _, _, _⟩ := ha
  obtain ⟨db, B, cb, rfl, _, _, _, _⟩ := hb
  obtain ⟨sa, hsa⟩ : ∃ x, EM.sgn a = x := ⟨_, rfl⟩
  obtain ⟨sb, hsb⟩ : ∃ x, EM.sgn b = x := ⟨_, rfl⟩
  have hsp : 0 ≤ sa := by rw [← hsa]; unfold EM.sgn; split <;> omega
  rw [hsa] at HA
  rw [hsb] at HB
  rw [hsa, hsb]
  clear hsa hsb
  generalize da.length = na at *
  generalize db.length = nb at *
  go_enter Try.func46, Try.ntmps46
  go_wp2_with fail
  have hbx := Box2.start w sa sb A B na nb ca cb
  have hl : w.heap.size + 3 = (((w.alloc (.cells #[.int .i64 sa, .slice A na ca] 47)).alloc (.cells #[.int .i64 sb, .slice B nb cb] 47)).alloc (.cells #[.int .i64 0, .slice none 0 0] 47)).heap.size := by simp
  have hst : UpW w F sa sb A B na nb ca cb a b k (w.heap.size + 3) 1 [⟨sb, B, nb, cb⟩] ((((w.alloc (.cells #[.int .i64 sa, .slice A na ca] 47)).alloc (.cells #[.int .i64 sb, .slice B nb cb] 47)).alloc (.cells #[.int .i64 0, .slice none 0 0] 47)).alloc (.cells #[.int .i64 sb, .slice B nb cb] 47)) := by
    have ha1 : Later w ((((w.alloc (.cells #[.int .i64 sa, .slice A na ca] 47)).alloc (.cells #[.int .i64 sb, .slice B nb cb] 47)).alloc (.cells #[.int .i64 0, .slice none 0 0] 47)).alloc (.cells #[.int .i64 sb, .slice B nb cb] 47)) := hbx.be.alloc (by simp; omega) _
    refine ⟨hbx.later ((Below.refl _ _).alloc (Nat.le_refl _) _), ?_, ?_, ?_⟩
    · rw [hl]; exact World.ownsRow_lit _ #[.int .i64 sb, .slice B nb cb] 1 (Nat.le_refl _) (by decide) rfl
    · intro i hi
      obtain rfl : i = 0 := by simpa using hi
      have := (HB.out.weak (G := Far F w.heap.size (w.heap.size + 3)) (fun q hq hlq => ⟨hq, by omega, by omega, by omega⟩)).below ha1
      simpa [XV.val] using this
    · exact (HA.out.weak (G := Far F w.heap.size (w.heap.size + 3)) (fun q hq hlq => ⟨hq, by omega, by omega, by omega⟩)).below ha1
  revert hst
  generalize ((((w.alloc (.cells #[.int .i64 sa, .slice A na ca] 47)).alloc (.cells #[.int .i64 sb, .slice B nb cb] 47)).alloc (.cells #[.int .i64 0, .slice none 0 0] 47)).alloc (.cells #[.int .i64 sb, .slice B nb cb] 47)) = W1
  intro hst
  have HST := Lib.hid hst
  clear hst hbx hl HA HB
  go_loopw [5] (fun v wr => ∃ (g cap p n : Nat) (xs : List XV), v = .slice (some ⟨g, 0, none⟩) n cap ∧ n = p + 1 ∧ xs.length = n ∧ p ≤ 200 ∧ UpW w F sa sb A B na nb ca cb a b k g cap xs wr) (fun v _ => 300 - slLen v)
  case atStart => exact ⟨w.heap.size + 3, 1, 0, 1, [⟨sb, B, nb, cb⟩], rfl, rfl, rfl, by omega, HST.out⟩
  case round =>
    obtain ⟨g, cap, p, n, xs, rfl, rfl, hlen, hp, hup⟩ := hrel
    have hpx : p < xs.length := by omega
    obtain ⟨c0, c1⟩ := hup.elem hpx
    have hd := hup.ds p hpx
    obtain ⟨e1, e2, e3, e4, e5, e6, f5, f6⟩ := hup.bx.cells
    obtain ⟨x, hx⟩ : ∃ x, x = xs[p] := ⟨_, rfl⟩
    rw [← hx] at c0 c1 hd
    obtain ⟨s, E, l, c⟩ := x
    dsimp only [XV.val] at c0 c1 hd
    have dp := EM.dbl_pos h1 p
    obtain ⟨y, hy⟩ : ∃ y, b * 2 ^ p = y := ⟨_, rfl⟩
    rw [hy] at hd dp
    have QL := Lib.hid (fun d => quiet_least _ .nilFunc .nilFunc sa s A E na l ca c a y k (k + p) wr d hup.ea hd (by omega) (by omega) h0 (by omega))
    have HU := Lib.hid hup
    have HY := Lib.hid hy
    have HX := Lib.hid hx
    have HD := Lib.hid hd
    have HLEN := Lib.hid hlen
    clear hup hy hx hd hlen
    by_cases hlt : a < y
    · have hdec : decide (a < y) = true := by simpa using hlt
      go_wp2_with fail
      go_quiet ((go_at_call 41; with_reducible refine (QL.out _).mono ?_; rintro e w' ⟨rfl, hq⟩; exact ⟨by rw [hdec], hq⟩))
      have hu2 := HU.out.later ((Later.refl wr).drewN nq)
      revert hu2
      generalize wr.drewN nq = wz
      intro hu2
      have HU2 := Lib.hid hu2
      clear hu2
      go_wp2_with fail
      have hdw := HU2.out.down (EM.small_70 h0 (Int.le_refl _) H2.out)
      have hz1 : wz.heap.size < (wz.alloc (.cells #[.int .i64 0, .slice none 0 0] 47)).heap.size := by simp
      obtain ⟨Q, hQ⟩ : ∃ x, x = wz.heap.size := ⟨_, rfl⟩
      rw [← hQ] at hdw hz1 ⊢
      generalize (wz.alloc (.cells #[.int .i64 0, .slice none 0 0] 47)) = W2 at hdw hz1 ⊢
      have HDW := Lib.hid hdw
      have hdn : EM.Down a b (p + 1) 0 a := EM.Down.start h0 (by rw [EM.dbl_succ, HY.out]; omega)
      have HDN := Lib.hid hdn
      clear hdw hdn hQ HU2 QL HU HD c0 c1 e1 e2 e3 e4 e5 e6 f5 f6
      go_loopw [8] (fun v wr => ∃ (j : Nat) (vx vq : XV) (x q : Int), v = .int .i64 ((j : Int) - 1) ∧ j ≤ p + 1 ∧ 0 ≤ q ∧ EM.Down a b j q x ∧ DnW w F b k g cap xs Q vx vq x q wr) (fun v _ => (intOf v + 1).toNat)
      case atStart => exact ⟨p + 1, _, _, _, _, by go_num, by omega, by omega, HDN.out, HDW.out⟩
      case round =>
        obtain ⟨j, ⟨sx, X, nx, cx⟩, ⟨sq, Y, nq, cq⟩, x, q, rfl, hj, hq0, hdn, hdw⟩ := hrel
        have a1 : wr.cell? ⟨w.heap.size, 0, none⟩ = some (.int .i64 sx) := hdw.xa.cell 0
        have a2 : wr.cell? ⟨w.heap.size, 1, none⟩ = some (.slice X nx cx) := hdw.xa.cell 1
        have q1 : wr.cell? ⟨Q, 0, none⟩ = some (.int .i64 sq) := hdw.bq.cell 0
        have q2 : wr.cell? ⟨Q, 1, none⟩ = some (.slice Y nq cq) := hdw.bq.cell 1
        have r1 : wr.cell? ⟨w.heap.size + 1 + 1, 0, none⟩ = some (.int .i64 0) := hdw.res.cell 0
        have r2 : wr.cell? ⟨w.heap.size + 1 + 1, 1, none⟩ = some (.slice none 0 0) := hdw.res.cell 1
        have r3 : wr.frozen? ⟨w.heap.size + 1 + 1, 0, none⟩ = false := hdw.res.frozen 0
        have r4 : wr.frozen? ⟨w.heap.size + 1 + 1, 1, none⟩ = false := hdw.res.frozen 1
        have hgQ := hdw.gq
        have hgL := hdw.gl
        have HDN := Lib.hid hdn
        have HDW := Lib.hid hdw
        clear hdn hdw
        rcases j with _ | j
        · go_wp2_with fail
          have hqd := HDN.out.done h1
          obtain ⟨ds, A', c', hv, k1, k2, k3, k4⟩ := HDW.out.eq
          simp only [XV.val, Value.agg.injEq, Array.mk.injEq, List.cons.injEq, Value.slice.injEq, Value.int.injEq, and_true, true_and] at hv
          obtain ⟨rfl, rfl, rfl, rfl⟩ := hv
          refine bodyPost_ret (v := .agg #[.int .i64 (EM.sgn q), .slice Y ds.length cq]) (by simp [results, Try.results46, go_sem, r1, r2]) rfl ⟨_, rfl, ?_, ?_⟩
          · refine ⟨ds, Y, cq, by rw [← hqd], k1, by omega, ?_, by rw [← hqd]; exact k4⟩
            exact RowF.weak ((k3.setCell (fun h => h.1.2.2.1 rfl) _).setCell (fun h => h.1.2.2.1 rfl) _) (fun q hq _ => hq.1.1)
          · exact (HDW.out.be.setCell (by simp; omega) _).setCell (by simp; omega) _
        · have hxq := HDN.out.le h1 hq0
          have hjx : j < xs.length := by rw [HLEN.out]; omega
          have hlo := HDN.out.lo
          have hhi := HDN.out.hi
          have hdj := EM.dbl_pos h1 j
          have hei := HDW.out.ds j hjx
          obtain ⟨xe, hxe⟩ : ∃ x, x = xs[j] := ⟨_, rfl⟩
          rw [← hxe] at hei
          have hel := HDW.out.elem hjx
          rw [← hxe] at hel
          obtain ⟨se, Ee, le, ce⟩ := xe
          obtain ⟨y2, hy2⟩ : ∃ y, b * 2 ^ j = y := ⟨_, rfl⟩
          dsimp only [XV.val] at hei hel
          rw [hy2] at hei hdj
          have HY2 := Lib.hid hy2
          have HEI := Lib.hid hei
          have HXE := Lib.hid hxe
          clear hei hxe hy2
          go_wp2_with fail
          refine (plus_any (But (Far F w.heap.size g) Q) _ _ q q 70 _ (HDW.out.new HF.out) HDW.out.eq HDW.out.eq (by omega)).mono ?_
          rintro e w3 ⟨v3, rfl, hx3, hb3⟩
          obtain ⟨⟨s3, E3, l3, c3⟩, rfl⟩ := hx3.xv
          have hdw3 := HDW.out.later hb3
          have q1 : w3.cell? ⟨Q, 0, none⟩ = some (.int .i64 sq) := hdw3.bq.cell 0
          have q2 : w3.cell? ⟨Q, 1, none⟩ = some (.slice Y nq cq) := hdw3.bq.cell 1
          have q3 : w3.frozen? ⟨Q, 0, none⟩ = false := hdw3.bq.frozen 0
          have q4 : w3.frozen? ⟨Q, 1, none⟩ = false := hdw3.bq.frozen 1
          have hx3' := hx3.fewer (k' := 70) (EM.small_70 (a := a) (by omega) (by have := HDN.out.le2 h1 hq0; omega) H2.out)
          have hdw4 := hdw3.setQ ⟨s3, E3, l3, c3⟩ (q + q) hx3'
          have HDW4 := Lib.hid hdw4
          clear hdw3 hx3 hb3 hx3' hdw4
          try dsimp only [XV.val]
          go_wp2_with fail
          have hdw4 := HDW4.out
          try dsimp only at hdw4
          clear HDW4 q1 q2 q3 q4
          generalize ((w3.setCell ⟨Q, 0, none⟩ (.int .i64 s3)).setCell ⟨Q, 1, none⟩ (.slice E3 l3 c3)) = w4 at hdw4 ⊢
          have a1 : w4.cell? ⟨w.heap.size, 0, none⟩ = some (.int .i64 sx) := hdw4.xa.cell 0
          have a2 : w4.cell? ⟨w.heap.size, 1, none⟩ = some (.slice X nx cx) := hdw4.xa.cell 1
          have hel4 := hdw4.elem hjx
          rw [← HXE.out] at hel4
          obtain ⟨e1, e2⟩ := hel4
          try dsimp only at e1 e2
          have hei4 := hdw4.ds j hjx
          rw [← HXE.out, HY2.out] at hei4
          try dsimp only [XV.val] at hei4
          have HDW4 := Lib.hid hdw4
          have HEI4 := Lib.hid hei4
          try rw [show ((j + 1 : Nat) : Int) - 1 = (j : Int) by omega]
          have g0 : (0 : Int) ≤ (j : Int) := Int.natCast_nonneg _
          have g1 : (j : Int) < (p : Int) + 1 := by omega
          obtain ⟨z, hz⟩ : ∃ z, EM.sgn (x - y2) = z := ⟨_, rfl⟩
          have HZ := Lib.hid hz
          clear hdw4 hei4
          by_cases hc : y2 ≤ x
          · have hz0 : decide (0 ≤ z) = true := by simp; rw [← hz]; unfold EM.sgn; split; omega; split <;> omega
            clear hz
            go_region_held3 (fun w' => w'.cell? ⟨w.heap.size, 0, none⟩ = some (.int .i64 sx) ∧ w'.cell? ⟨w.heap.size, 1, none⟩ = some (.slice X nx cx) ∧ w'.cell? ⟨g, j * 2, none⟩ = some (.int .i64 se) ∧ w'.cell? ⟨g, j * 2 + 1, none⟩ = some (.slice Ee le ce))
              (first | (go_keep; done) | (go_split_ands; exact ⟨b1, b2, b3, b4⟩))
              ((go_at_call 42; refine (cmp_any _ _ x y2 2000 _ ?_ ?_ (by omega) z HZ.out).mono ?_; exact (HDW4.out.later (Later.refl _).drew).ex.any (by omega); exact (HEI4.out.later (Later.refl _).drew).any (by omega); rintro e w5 ⟨rfl, hb5⟩; have HDW5 := Lib.hid (HDW4.out.later ((Later.refl w4).drew.trans hb5)); have HEI5 := Lib.hid (HEI4.out.later ((Later.refl w4).drew.trans hb5)); clear hb5; have b1 : w5.cell? ⟨w.heap.size, 0, none⟩ = some (.int .i64 sx) := HDW5.out.xa.cell 0; have b2 : w5.cell? ⟨w.heap.size, 1, none⟩ = some (.slice X nx cx) := HDW5.out.xa.cell 1; obtain ⟨b3, b4⟩ : w5.cell? ⟨g, j * 2, none⟩ = some (.int .i64 se) ∧ w5.cell? ⟨g, j * 2 + 1, none⟩ = some (.slice Ee le ce) := by have hh := HDW5.out.elem hjx; rw [← HXE.out] at hh; exact hh))
            go_wp2_with fail
            go_still_tail 5, (by kernel_rfl)
            change wpList _ _ _ _ _ w5.drew
            have hdw6 := HDW5.out.later (Later.refl w5).drew
            have hei6 := HEI5.out.later (Later.refl w5).drew
            generalize w5.drew = w6 at hdw6 hei6 ⊢
            have HDW6 := Lib.hid hdw6
            have HEI6 := Lib.hid hei6
            clear hdw6 hei6 a1 a2 e1 e2 b1 b2 b3 b4
            go_wp2_with fail
            refine (less_any (But (Far F w.heap.size g) Q) _ _ x y2 2000 _ (HDW6.out.new HF.out) (HDW6.out.ex.more (by omega)) (HEI6.out.more (by omega)) (by omega)).mono ?_
            rintro e w7 ⟨v7, rfl, hx7, hb7⟩
            obtain ⟨⟨s7, E7, l7, c7⟩, rfl⟩ := hx7.xv
            have hdw7 := HDW6.out.later hb7
            have q1 : w7.cell? ⟨w.heap.size, 0, none⟩ = some (.int .i64 sx) := hdw7.xa.cell 0
            have q2 : w7.cell? ⟨w.heap.size, 1, none⟩ = some (.slice X nx cx) := hdw7.xa.cell 1
            have q3 : w7.frozen? ⟨w.heap.size, 0, none⟩ = false := hdw7.xa.frozen 0
            have q4 : w7.frozen? ⟨w.heap.size, 1, none⟩ = false := hdw7.xa.frozen 1
            have hx7' := hx7.fewer (k' := 70) (EM.small_70 (a := a) (by omega) (by omega) H2.out)
            have hdw8 := hdw7.setA ⟨s7, E7, l7, c7⟩ (x - y2) hx7'
            have HDW8 := Lib.hid hdw8
            clear hdw7 hx7 hb7 hx7' hdw8
            try dsimp only [XV.val]
            go_wp2_with fail
            have hdw8 := HDW8.out
            try dsimp only at hdw8
            clear HDW8 q1 q2 q3 q4
            generalize ((w7.setCell ⟨w.heap.size, 0, none⟩ (.int .i64 s7)).setCell ⟨w.heap.size, 1, none⟩ (.slice E7 l7 c7)) = w8 at hdw8 ⊢
            have q1 : w8.cell? ⟨Q, 0, none⟩ = some (.int .i64 s3) := hdw8.bq.cell 0
            have q2 : w8.cell? ⟨Q, 1, none⟩ = some (.slice E3 l3 c3) := hdw8.bq.cell 1
            have HDW8 := Lib.hid hdw8
            clear hdw8
            go_region_with
              (first
                | (go_at_call 27; refine (of_any (But (Far F w.heap.size g) Q) 1 _ ?_ ?_).mono ?_; exact (HDW8.out.later (Later.refl _).drew).new HF.out; decide; rintro e w9 ⟨v9, rfl, hx9, hb9⟩; have HDW9 := Lib.hid (HDW8.out.later ((Later.refl w8).drew.trans hb9)); have HX9 := Lib.hid hx9; clear hx9 hb9; have b1 : w9.cell? ⟨Q, 0, none⟩ = some (.int .i64 s3) := HDW9.out.bq.cell 0; have b2 : w9.cell? ⟨Q, 1, none⟩ = some (.slice E3 l3 c3) := HDW9.out.bq.cell 1)
                | (go_at_call 26; refine (plus_any (But (Far F w.heap.size g) Q) _ _ (q + q) 1 70 _ ?_ ?_ ?_ (by omega)).mono ?_; exact HDW9.out.new HF.out; exact HDW9.out.eq; exact HX9.out.more (by omega); rintro e w10 ⟨v10, rfl, hx10, hb10⟩; obtain ⟨⟨s10, E10, l10, c10⟩, rfl⟩ := hx10.xv; have HDW10 := Lib.hid (HDW9.out.later hb10); have HX10 := Lib.hid hx10; clear hx10 hb10; have d1 : w10.cell? ⟨Q, 0, none⟩ = some (.int .i64 s3) := HDW10.out.bq.cell 0; have d2 : w10.cell? ⟨Q, 1, none⟩ = some (.slice E3 l3 c3) := HDW10.out.bq.cell 1; have d3 := HDW10.out.bq.frozen 0; have d4 := HDW10.out.bq.frozen 1; try dsimp only [XV.val]))
            all_goals
              go_wp2_with fail
              go_roundw
              case rel =>
                have ht := HDN.out.take (by rw [HY2.out]; exact hc)
                rw [HY2.out] at ht
                have htl := ht.le h1 (by omega)
                exact ⟨j, _, ⟨s10, E10, l10, c10⟩, x - y2, q + q + 1, rfl, by omega, by omega, ht, HDW10.out.setQ ⟨s10, E10, l10, c10⟩ (q + q + 1) (HX10.out.fewer (EM.small_70 (by omega) htl.2 H2.out))⟩
              case measure => simp only [intOf]; omega
          · have hz0 : decide (0 ≤ z) = false := by simp; rw [← hz]; unfold EM.sgn; split; omega; split <;> omega
            clear hz
            go_region_held3 (fun w' => w'.cell? ⟨w.heap.size, 0, none⟩ = some (.int .i64 sx) ∧ w'.cell? ⟨w.heap.size, 1, none⟩ = some (.slice X nx cx) ∧ w'.cell? ⟨g, j * 2, none⟩ = some (.int .i64 se) ∧ w'.cell? ⟨g, j * 2 + 1, none⟩ = some (.slice Ee le ce))
              (first | (go_keep; done) | (go_split_ands; exact ⟨b1, b2, b3, b4⟩))
              ((go_at_call 42; refine (cmp_any _ _ x y2 2000 _ ?_ ?_ (by omega) z HZ.out).mono ?_; exact (HDW4.out.later (Later.refl _).drew).ex.any (by omega); exact (HEI4.out.later (Later.refl _).drew).any (by omega); rintro e w5 ⟨rfl, hb5⟩; have HDW5 := Lib.hid (HDW4.out.later ((Later.refl w4).drew.trans hb5)); have HEI5 := Lib.hid (HEI4.out.later ((Later.refl w4).drew.trans hb5)); clear hb5; have b1 : w5.cell? ⟨w.heap.size, 0, none⟩ = some (.int .i64 sx) := HDW5.out.xa.cell 0; have b2 : w5.cell? ⟨w.heap.size, 1, none⟩ = some (.slice X nx cx) := HDW5.out.xa.cell 1; obtain ⟨b3, b4⟩ : w5.cell? ⟨g, j * 2, none⟩ = some (.int .i64 se) ∧ w5.cell? ⟨g, j * 2 + 1, none⟩ = some (.slice Ee le ce) := by have hh := HDW5.out.elem hjx; rw [← HXE.out] at hh; exact hh))
            go_wp2_with fail
            go_roundw
            case rel => exact ⟨j, _, ⟨s3, E3, l3, c3⟩, x, q + q, rfl, by omega, by omega, HDN.out.skip (by rw [HY2.out]; omega), HDW5.out⟩
            case measure => simp only [intOf]; omega
    · have hdec : decide (a < y) = false := by simpa using hlt
      have hp2 : p < 200 := EM.dbl_lt h1 H2.out (by rw [HY.out]; omega)
      go_wp2_with fail
      go_quiet ((go_at_call 41; with_reducible refine (QL.out _).mono ?_; rintro e w' ⟨rfl, hq⟩; exact ⟨by rw [hdec], hq⟩))
      have hu2 := HU.out.later ((Later.refl wr).drewN nq)
      have hd2 := HD.out.below ((Later.refl wr).drewN nq)
      have c2 : (wr.drewN nq).cell? ⟨g, p * 2, none⟩ = some (.int .i64 s) := c0
      have c3 : (wr.drewN nq).cell? ⟨g, p * 2 + 1, none⟩ = some (.slice E l c) := c1
      clear c0 c1 e1 e2 e3 e4 e5 e6 f5 f6
      revert hu2 hd2 c2 c3
      generalize wr.drewN nq = wz
      intro hu2 hd2 c2 c3
      have hgl : g < wz.heap.size := (hu2.own.lt g rfl).2
      have HU2 := Lib.hid hu2
      have HD2 := Lib.hid hd2
      clear hu2 hd2 HU HD QL
      go_wp2_with fail
      have hnf : New (wz.alloc (.cells #[.int .i64 s, .slice E l c] 47)) (Far F w.heap.size g) := HF.out.far (by have := HU2.out.bx.res.lt; simp; omega) (by simp; omega)
      have hda := HD2.out.below ((Below.refl wz.heap.size wz).alloc (Nat.le_refl _) (.cells #[.int .i64 s, .slice E l c] 47))
      refine (plus_any (Far F w.heap.size g) _ _ y y (k + p) _ hnf hda hda (by omega)).mono ?_
      rintro e w6 ⟨_, rfl, ⟨d6, E6, c6, rfl, h62, h63, h64, h65⟩, hb6⟩
      have hl6 : Later wz w6 := Later.trans ((Below.refl wz.heap.size wz).alloc (Nat.le_refl _) (.cells #[.int .i64 s, .slice E l c] 47)) hb6
      obtain ⟨n6, hn6⟩ : ∃ x, d6.length = x := ⟨_, rfl⟩
      obtain ⟨s6, hs6⟩ : ∃ x, EM.sgn (y + y) = x := ⟨_, rfl⟩
      have X6 := Lib.hid (show Ex w6 (Far F w.heap.size g) (XV.val ⟨s6, E6, n6, c6⟩) (y + y) (k + p + 1) from ⟨d6, E6, c6, by rw [← hn6, ← hs6]; rfl, h62, h63, h64, h65⟩)
      rw [hs6, hn6]
      have HU6 := Lib.hid (HU2.out.later hl6)
      have hb1 : (p + 1 + 1) * 32 ≤ 140737488355328 := by omega
      have hb2 : p + 1 + 1 ≤ maxLen := by unfold maxLen; omega
      have OW := Lib.hid (show w6.ownsRow (w.heap.size + 3) 47 2 (.slice (some ⟨g, 0, none⟩) (p + 1) cap) (p + 1) (xcells xs) by have := HU6.out.own; rw [HLEN.out] at this; exact this)
      have hbs : w.heap.size + 3 ≤ w6.heap.size := by have := HU6.out.bx.res.lt; omega
      clear hl6 hb6 h62 h63 h64 h65 hn6 hs6 hnf hda c2 c3
      go_wp2_with (at_builtin; refine wpList_app E_ex rfl (.tmp 40) (.tmp 44) rfl rfl (OW.out.alloc _) ⟨w6.heap.size, 0, none⟩ 1 1 [_, _] rfl rfl (World.news_of_block (heap_alloc_new w6 _)) (by simp [Value.oneCell']) hb1 hb2 (by simp; omega) (by decide) ?_; intro g2 cap2 w7 hown7 hg7 hat7; have HO7 := Lib.hid hown7; have HG7 := Lib.hid hg7; have HA7 := Lib.hid hat7; clear hown7 hg7 hat7)
      go_roundw
      case rel =>
        refine ⟨g2, cap2, p + 1, p + 1 + 1, xs ++ [⟨s6, E6, n6, c6⟩], rfl, rfl, by simp [HLEN.out], by omega, ?_⟩
        have hx6 : Ex w6 (Far F w.heap.size g) (XV.val ⟨s6, E6, n6, c6⟩) (b * 2 ^ xs.length) (k + xs.length) := by
          rw [HLEN.out, EM.dbl_succ, HY.out]; exact X6.out
        exact UpW.step (HU6.out.later (show Later w6 _ from Below.alloc1 w6 _)) HLEN.out (hx6.below (Below.alloc1 _ _)) HO7.out HG7.out HA7.out
      case measure => simp only [slLen]; omega
end Go.Proofs.Ytkceeifhnohioaa.Exact
