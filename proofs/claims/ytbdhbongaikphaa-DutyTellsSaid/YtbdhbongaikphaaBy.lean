/- The walk of the reference's By. -/
import Derived.Test.YtbdhbongaikphaaByMath
import Derived.Test.YtbdhbongaikphaaExactB
import Derived.Laws.OwnMore
import Derived.Laws.MakeOwn
namespace Go.Proofs.Ytbdhbongaikphaa.Exact
open Go.RowKit Go.Proofs.Ytbdhbongaikphaa.Cents
set_option linter.unusedVariables false
set_option linter.unusedSimpArgs false

/-- Digits in a block of one's own. -/
def DigB (w : World) (g : Nat) (out : List Int) : Prop := Blk w g 3 (ints out).toArray
theorem DigB.cell {w : World} {g : Nat} {out : List Int} (h : DigB w g out) {j : Nat} (hj : j < out.length) : w.cell? ⟨g, j, none⟩ = some (.int .i64 (EM.dig out j)) := by
  have := Blk.cell h j
  rw [this]
  simp [ints, EM.dig, List.getD_eq_getElem?_getD, List.getElem?_eq_getElem hj]
theorem DigB.frozen {w : World} {g : Nat} {out : List Int} (h : DigB w g out) (j : Nat) : w.frozen? ⟨g, j, none⟩ = false := Blk.frozen h j
theorem DigB.set {w : World} {g : Nat} {out : List Int} (h : DigB w g out) (j : Nat) (d : Int) : DigB (w.setCell ⟨g, j, none⟩ (.int .i64 d)) g (out.set j d) := by
  have := Blk.set_ h j (.int .i64 d)
  unfold DigB
  rw [show (ints (out.set j d)).toArray = (ints out).toArray.setIfInBounds j (.int .i64 d) by simp [ints, List.map_set]]
  exact this
theorem made_zero (w : World) (n : Nat) (hn : n ≤ 1000000) : (Instr.makeSlice 40 (.int .i64 (n : Int)) (.int .i64 (n : Int))).run Try.prog w = .ok (.slice (some ⟨w.heap.size, 0, none⟩) n n) (w.alloc (.cells (ints (List.replicate n 0)).toArray 3)) := by
  obtain ⟨i, z, h1, h2, h3, h4⟩ : ∃ i z, Try.prog.info? 3 = some i ∧ i.zero = some z ∧ i.size = 1 ∧ i.bytes = 8 := by
    have h : (Try.prog.info? 3).map (fun i => (i.zero, i.size, i.bytes)) = some (some (.int .i64 0), 1, 8) := by kernel_rfl
    obtain ⟨i, a, b, c, d⟩ := info_parts h
    exact ⟨i, _, a, b, c, d⟩
  have hz : z = .int .i64 0 := by
    have h : (Try.prog.info? 3).map (fun i => i.zero) = some (some (.int .i64 0)) := by kernel_rfl
    rw [h1] at h
    simp [h2] at h
    exact h
  have := run_makeSlice (P := Try.prog) w _ _ i z Try.underlying40 h1 h2 .i64 .i64 (n : Int) (n : Int) (by omega) (by omega) (by rw [h3]; simp; omega) (by rw [h4]; omega) (by omega)
  rw [this, h3, hz]
  simp only [Int.toNat_natCast, Nat.mul_one]
  have e : madeCells (Value.int .i64 0).cells n = (ints (List.replicate n 0)).toArray := by
    apply Array.ext
    · simp [madeCells, ints]
    · intro j h1 h2
      simp [madeCells, ints, Value.cells, Nat.mod_one]
  rw [e]

/-- In the loops of By: the boxes of both numbers, the digits of the product so far. -/
structure ByW (w0 : World) (F : Nat → Prop) (sa sb : Int) (A B : Option Addr) (a b : List Int) (na nb ca cb : Nat) (out : List Int) (wr : World) : Prop where
  bx : Box2 w0 sa sb A B na nb ca cb wr
  dg : DigB wr (w0.heap.size + 3) out
  ra : RowF wr (But F (w0.heap.size + 3)) A (ints a)
  rb : RowF wr (But F (w0.heap.size + 3)) B (ints b)
theorem ByW.set {w0 wr : World} {F : Nat → Prop} {sa sb : Int} {A B : Option Addr} {a b : List Int} {na nb ca cb : Nat} {out : List Int} (h : ByW w0 F sa sb A B a b na nb ca cb out wr) (j : Nat) (d : Int) :
    ByW w0 F sa sb A B a b na nb ca cb (out.set j d) (wr.setCell ⟨w0.heap.size + 3, j, none⟩ (.int .i64 d)) where
  bx := ⟨h.bx.xa.far (by simp) _, h.bx.xb.far (by simp) _, h.bx.res.far (by simp) _, h.bx.be.setCell (by simp) _⟩
  dg := h.dg.set j d
  ra := h.ra.setCell (fun hf => hf.2 rfl) _
  rb := h.rb.setCell (fun hf => hf.2 rfl) _
theorem ByW.drewN {w0 wr : World} {F : Nat → Prop} {sa sb : Int} {A B : Option Addr} {a b : List Int} {na nb ca cb : Nat} {out : List Int} (h : ByW w0 F sa sb A B a b na nb ca cb out wr) (n : Nat) : ByW w0 F sa sb A B a b na nb ca cb out (wr.drewN n) :=
  ⟨h.bx.later ((Later.refl _).drewN n), h.dg, h.ra, h.rb⟩

set_option maxHeartbeats 2000000 in
set_option maxRecDepth 100000 in
theorem by_any (F : Nat → Prop) (va vb : Value) (m n : Int) (k : Nat) (w : World) (hF : New w F) (ha : Ex w F va m k) (hb : Ex w F vb n k) (hk : k ≤ 1000) :
    Calls Try.prog 42 #[va, vb] w (RetEx w F (m * n) (2 * k + 2)) := by
  obtain ⟨a, A, ca, rfl, hca, hla, hra, hta⟩ := ha
  obtain ⟨b, B, cb, rfl, hcb, hlb, hrb, htb⟩ := hb
  have HF := Lib.hid hF
  have RA := Lib.hid hra
  have RB := Lib.hid hrb
  have TA := Lib.hid hta
  have TB := Lib.hid htb
  clear hF hra hrb hta htb
  obtain ⟨sm, hsm⟩ : ∃ x, EM.sgn m = x := ⟨_, rfl⟩
  obtain ⟨sn, hsn⟩ : ∃ x, EM.sgn n = x := ⟨_, rfl⟩
  have SM := Lib.hid hsm
  have SN := Lib.hid hsn
  rw [hsm, hsn]
  clear hsm hsn
  obtain ⟨na, hna⟩ : ∃ x, a.length = x := ⟨_, rfl⟩
  obtain ⟨nb, hnb⟩ : ∃ x, b.length = x := ⟨_, rfl⟩
  have NA := Lib.hid hna
  have NB := Lib.hid hnb
  rw [hna] at hla hca
  rw [hnb] at hlb hcb
  rw [hna, hnb]
  clear hna hnb
  go_enter Try.func42, Try.ntmps42
  go_wp2_with fail
  have hmk := made_zero (((w.alloc (.cells #[.int .i64 sm, .slice A na ca] 64)).alloc (.cells #[.int .i64 sn, .slice B nb cb] 64)).alloc (.cells #[.int .i64 0, .slice none 0 0] 64)) (na + nb + 2) (by omega)
  rw [show (((na + nb + 2 : Nat)) : Int) = (na : Int) + nb + 2 by omega] at hmk
  obtain ⟨N2, hN2⟩ : ∃ x, na + nb + 2 = x := ⟨_, rfl⟩
  have N2' := Lib.hid hN2
  rw [hN2] at hmk
  rw [show (((w.alloc (.cells #[.int .i64 sm, .slice A na ca] 64)).alloc (.cells #[.int .i64 sn, .slice B nb cb] 64)).alloc (.cells #[.int .i64 0, .slice none 0 0] 64)).heap.size = w.heap.size + 3 by simp] at hmk
  rw [hmk]
  have hst : ByW w F sm sn A B a b na nb ca cb (List.replicate N2 0) ((((w.alloc (.cells #[.int .i64 sm, .slice A na ca] 64)).alloc (.cells #[.int .i64 sn, .slice B nb cb] 64)).alloc (.cells #[.int .i64 0, .slice none 0 0] 64)).alloc (.cells (ints (List.replicate N2 0)).toArray 3)) := by
    have h0 := Box2.start w sm sn A B na nb ca cb
    have hl : w.heap.size + 3 = (((w.alloc (.cells #[.int .i64 sm, .slice A na ca] 64)).alloc (.cells #[.int .i64 sn, .slice B nb cb] 64)).alloc (.cells #[.int .i64 0, .slice none 0 0] 64)).heap.size := by simp
    refine ⟨h0.later ((Below.refl _ _).alloc (Nat.le_refl _) _), ?_, ?_, ?_⟩
    · unfold DigB; rw [hl]; exact Blk.new _ _ _
    · exact ((RA.out.weak (G := But F (w.heap.size + 3)) (fun q hq hlq => ⟨hq, by omega⟩)).below h0.be).alloc _
    · exact ((RB.out.weak (G := But F (w.heap.size + 3)) (fun q hq hlq => ⟨hq, by omega⟩)).below h0.be).alloc _
  revert hst
  generalize ((((w.alloc (.cells #[.int .i64 sm, .slice A na ca] 64)).alloc (.cells #[.int .i64 sn, .slice B nb cb] 64)).alloc (.cells #[.int .i64 0, .slice none 0 0] 64)).alloc (.cells (ints (List.replicate N2 0)).toArray 3)) = W1
  intro hst
  have HST := Lib.hid hst
  clear hst hmk hN2 RA RB
  have hle : ∀ x y : Nat, x + y ≤ 2002 → x + y ≤ 9223372036854775807 := fun _ _ h => by omega
  have bN : N2 ≤ 2002 := by have := N2'.out; omega
  go_wp2_with fail
  go_loopw [6] (fun i wr => ∃ (j : Nat) (out : List Int), i = .int .i64 (j : Int) ∧ j ≤ na ∧ EM.Digs out ∧ out.length = N2 ∧ EM.val out = EM.pos a b j 0 ∧ ByW w F sm sn A B a b na nb ca cb out wr) (fun i _ => na - (intOf i).toNat)
  case atStart => exact ⟨0, _, rfl, Nat.zero_le _, EM.digs_zeros _, by simp, by rw [EM.val_zeros, EM.pos_zero], HST.out⟩
  case round =>
    obtain ⟨j, out, rfl, hj, hdg, hlen, hval, hby⟩ := hrel
    obtain ⟨e1, e2, e3, e4, e5, e6, f5, f6⟩ := hby.bx.cells
    by_cases hlt : j < na
    · have HD := Lib.hid hdg
      have HL := Lib.hid hlen
      have HV := Lib.hid hval
      have HB := Lib.hid hby
      clear hdg hlen hval hby
      obtain ⟨wo, rfl⟩ : ∃ x, x = wr := ⟨_, rfl⟩
      go_wp2_with fail
      go_loopw [7] (fun i wr => ∃ (q : Nat) (out : List Int), i = .int .i64 (q : Int) ∧ q ≤ nb ∧ EM.Digs out ∧ out.length = N2 ∧ EM.val out = EM.pos a b j q ∧ ByW w F sm sn A B a b na nb ca cb out wr) (fun i _ => nb - (intOf i).toNat)
      case atStart => exact ⟨0, out, rfl, Nat.zero_le _, HD.out, HL.out, HV.out, HB.out⟩
      case round =>
        clear HD HL HV HB e1 e2 e3 e4 e5 e6 f5 f6
        obtain ⟨q, out, rfl, hq, hdg, hlen, hval, hby⟩ := hrel
        obtain ⟨e1, e2, e3, e4, e5, e6, f5, f6⟩ := hby.bx.cells
        by_cases hlq : q < nb
        · obtain ⟨ax, rfl, x0⟩ := RowF.dig hby.ra (i := j) (by rw [NA.out]; exact hlt)
          obtain ⟨bx, rfl, y0⟩ := RowF.dig hby.rb (i := q) (by rw [NB.out]; exact hlq)
          have z0 := hby.dg.cell (j := j + q) (by rw [hlen, ← N2'.out]; omega)
          have zf := hby.dg.frozen (j + q)
          have hca := EM.Carry.start TA.out.digs TB.out.digs hdg (by rw [hlen, NA.out, NB.out]; exact N2'.out.symm) (by rw [NA.out]; exact hlt) (by rw [NB.out]; exact hlq) hval
          have ra := EM.dig_range TA.out.digs j
          have rb := EM.dig_range TB.out.digs q
          have rc := EM.dig_range hdg (j + q)
          obtain ⟨x, hx⟩ : ∃ x, EM.dig a j = x := ⟨_, rfl⟩
          obtain ⟨y, hy⟩ : ∃ x, EM.dig b q = x := ⟨_, rfl⟩
          obtain ⟨z, hz⟩ : ∃ x, EM.dig out (j + q) = x := ⟨_, rfl⟩
          rw [hx] at x0 ra
          rw [hy] at y0 rb
          rw [hz] at z0 rc
          rw [hx, hy, hz] at hca
          have p0 : 0 ≤ x * y := Int.mul_nonneg ra.1 rb.1
          have p1 : x * y ≤ 999 * 999 := Int.le_trans (Int.mul_le_mul_of_nonneg_right (show x ≤ 999 by omega) rb.1) (Int.mul_le_mul_of_nonneg_left (by omega) (by omega))
          have HCA := Lib.hid hca
          have HB := Lib.hid hby
          clear hca hx hy hz hdg hlen hval hby
          obtain ⟨r0, r1⟩ := ra
          obtain ⟨r2, r3⟩ := rb
          obtain ⟨r4, r5⟩ := rc
          have wa : IntKind.i64.wrap ((j : Int) + (q : Int)) = (j : Int) + (q : Int) := IntWalk.i64_in _ (by omega)
          have wm : IntKind.i64.wrap (x * y) = x * y := IntWalk.i64_in _ (by omega)
          have ws : IntKind.i64.wrap (z + x * y) = z + x * y := IntWalk.i64_in _ (by omega)
          go_wp2_with fail
          have hjq : j + q < N2 := by have := N2'.out; omega
          have hji : (j : Int) + (q : Int) < (N2 : Int) := by omega
          have htn : ((j : Int) + (q : Int)).toNat = j + q := by omega
          go_quiet (fail)
          clear wa wm ws
          go_wp2_with fail
          go_loopw [9, 10] (fun jv ov wr => ∃ (p : Nat) (over : Int) (out' : List Int), jv = .int .i64 (p : Int) ∧ ov = .int .i64 over ∧ EM.Carry (na + nb) (EM.pos a b j (q + 1)) out' p over ∧ ByW w F sm sn (some ax) (some bx) a b na nb ca cb out' wr) (fun jv _ _ => N2 - (intOf jv).toNat)
          case atStart =>
            have hc := HCA.out
            rw [NA.out, NB.out] at hc
            refine ⟨j + q + 1, (z + x * y) / 1000, _, by go_num, ?_, hc, ?_⟩
            · first | rfl | (congr 1; omega)
            · exact (HB.out.drewN nq).set (j + q) _
          case round =>
            clear HCA HB e1 e2 e3 e4 e5 e6 f5 f6 x0 y0 z0 zf
            obtain ⟨p, over, out', rfl, rfl, hc, hby⟩ := hrel
            obtain ⟨e1, e2, e3, e4, e5, e6, f5, f6⟩ := hby.bx.cells
            have hlo := hc.lo
            have hhi := hc.hi
            by_cases ho : 0 < over
            · have hp := hc.place ho
              have hpN : p < N2 := by have := N2'.out; omega
              have z0 := hby.dg.cell (j := p) (by rw [hc.len, N2'.out]; exact hpN)
              have zf := hby.dg.frozen p
              have rc := EM.dig_range hc.digs p
              have hst := hc.step ho
              obtain ⟨d, hd⟩ : ∃ x, EM.dig out' p = x := ⟨_, rfl⟩
              rw [hd] at z0 rc hst
              obtain ⟨r6, r7⟩ := rc
              have HS := Lib.hid hst
              have HB := Lib.hid hby
              clear hst hby hc hd
              go_wp2_with fail
              go_roundw
              case rel => exact ⟨p + 1, _, _, by go_num, rfl, HS.out, HB.out.set p _⟩
              case measure => simp only [intOf]; omega
            · have HVD := Lib.hid (hc.done ho)
              have HC := Lib.hid hc
              have HB := Lib.hid hby
              clear hc hby
              go_wp2_with fail
              go_roundw
              case rel => exact ⟨q + 1, out', by go_num, by omega, HC.out.digs, by rw [HC.out.len]; exact N2'.out, HVD.out, HB.out⟩
              case measure => simp only [intOf]; omega
        · obtain rfl : q = nb := by omega
          have hv2 : EM.val out = EM.pos a b (j + 1) 0 := by rw [hval, ← NB.out]; exact EM.pos_next a b j
          have HV2 := Lib.hid hv2
          have HD := Lib.hid hdg
          have HL := Lib.hid hlen
          have HB := Lib.hid hby
          clear hv2 hdg hlen hval hby
          go_wp2_with fail
          go_roundw
          case rel => exact ⟨j + 1, out, by go_num, by omega, HD.out, HL.out, HV2.out, HB.out⟩
          case measure => simp only [intOf]; omega
    · obtain rfl : j = na := by omega
      have hv2 : EM.val out = ((m * n).natAbs : Int) := by rw [hval, ← NA.out, EM.pos_end, TA.out.val, TB.out.val, Int.natAbs_mul]; simp
      have hsg : m * n ≠ 0 → sm * sn = EM.sgn (m * n) := by intro h; rw [← SM.out, ← SN.out]; exact EM.sgn_mul m n h
      have hr : RowF wr (But F (w.heap.size + 2)) (some ⟨w.heap.size + 3, 0, none⟩) (ints out) := by
        refine (Row.of_blk hby.dg (Nat.le_refl _) (by simp)).rowF fun q hq _ => ⟨HF.out q (by omega), by omega⟩
      have b1 : -1 ≤ sm ∧ sm ≤ 1 := by rw [← SM.out]; unfold EM.sgn; split; omega; split <;> omega
      have b2 : -1 ≤ sn ∧ sn ≤ 1 := by rw [← SN.out]; unfold EM.sgn; split; omega; split <;> omega
      have b3 : -1 ≤ sm * sn ∧ sm * sn ≤ 1 := by
        have h1 : sm = -1 ∨ sm = 0 ∨ sm = 1 := by omega
        rcases h1 with h | h | h <;> rw [h] <;> omega
      have wm : IntKind.i64.wrap (sm * sn) = sm * sn := IntWalk.i64_in _ (by omega)
      have HMA := Lib.hid (made_any (But F (w.heap.size + 2)) (sm * sn) (some ⟨w.heap.size + 3, 0, none⟩) out N2 (m * n) wr hr hdg (by omega) (by omega) hv2 hsg)
      have HMA2 := Lib.hid (show Calls Try.prog 36 #[.int .i64 (sm * sn), .slice (some ⟨w.heap.size + 3, 0, none⟩) N2 N2] wr (RetEx wr (But F (w.heap.size + 2)) (m * n) N2) by have := HMA.out; rw [hlen] at this; exact this)
      have HB := Lib.hid hby
      clear hv2 hsg hr hdg hlen hval hby b1 b2 b3
      go_wp2_with fail
      refine HMA2.out.mono ?_
      rintro e w2 ⟨_, rfl, ⟨es, E, ce, rfl, h2', h3', h4', h5'⟩, hb2⟩
      have HX2 := Lib.hid (HB.out.bx.later hb2)
      have H4 := Lib.hid h4'
      have H5 := Lib.hid h5'
      clear h4' h5' hb2
      obtain ⟨d1, d2, d3, d4, d5, d6, d7, d8⟩ := HX2.out.cells
      go_wp2_with fail
      refine bodyPost_end (v := .agg #[.int .i64 (EM.sgn (m * n)), .slice E es.length ce]) (by simp [results, Try.results42, go_sem, d5, d6]) rfl ⟨_, rfl, ?_, ?_⟩
      · refine ⟨es, E, ce, rfl, h2', by have := N2'.out; omega, ?_, H5.out⟩
        exact RowF.weak ((H4.out.setCell (fun h => h.2 rfl) _).setCell (fun h => h.2 rfl) _) (fun q hq _ => hq.1)
      · exact (HX2.out.be.setCell (by simp; omega) _).setCell (by simp; omega) _
end Go.Proofs.Ytbdhbongaikphaa.Exact
