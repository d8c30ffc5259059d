/- The reference's ledger: how it lies; New, Sum. -/
import Derived.Test.YtmijcgcppankcaaAcctU
import Derived.Test.YtmijcgcppankcaaAcc
import Derived.Test.YtmijcgcppankcaaMem2
import Derived.BigQuiet
import Derived.Deep.DeepCutAuto
import Derived.Deep.RegionHeld3
namespace Go.Proofs.Ytmijcgcppankcaa.AC
open Go.RowKit Go.Proofs.Ytmijcgcppankcaa.Cents Go.Proofs.Ytmijcgcppankcaa.MV Go.Proofs.Ytmijcgcppankcaa.Net Go.Proofs.Ytmijcgcppankcaa.CO Go.Proofs.Ytmijcgcppankcaa.Exact
open Go.Maps (Keyed)
set_option linter.unusedVariables false
set_option linter.unusedSimpArgs false

/-- How the reference's ledger lies. -/
structure RLedW (b0 R per : Nat) (opn : Int) (xs : List EV) (E : Option Addr) (c : Nat) (w : World) : Prop where
  led : Blk w R 43 #[.int .i64 (per : Int), .int .i64 opn, .slice E xs.length c]
  own : w.ownsRow b0 52 3 (.slice E xs.length c) xs.length (xs.flatMap evc)
  pst : ∀ x ∈ xs, w.ownsRow b0 48 3 x.v x.e.ps.length (cells x.e.ps)
  hR : b0 ≤ R
section
variable {b0 R per : Nat} {opn : Int} {xs : List EV} {E : Option Addr} {c : Nat} {w w' : World}
theorem RLedW.later (h : RLedW b0 R per opn xs E c w) (hb : Below w.heap.size w w') : RLedW b0 R per opn xs E c w' :=
  ⟨h.led.below hb h.led.lt, own_below h.own hb, fun x hx => own_below (h.pst x hx) hb, h.hR⟩
theorem RLedW.entry (hL : RLedW b0 R per opn xs E c w) {i : Nat} (hi : i < xs.length) :
    ∃ g, E = some ⟨g, 0, none⟩ ∧ w.cell? ⟨g, i * 3, none⟩ = some (.int .i64 ((xs.getD i ev0).e.q : Int)) ∧ w.cell? ⟨g, i * 3 + 1, none⟩ = some (xs.getD i ev0).v ∧ w.cell? ⟨g, i * 3 + 2, none⟩ = some (.bool (xs.getD i ev0).e.turned) ∧ w.frozen? ⟨g, i * 3 + 2, none⟩ = false := by
  have hown := hL.own
  have hev : xs.getD i ev0 = xs[i] := by simp [List.getD_eq_getElem?_getD, hi]
  obtain ⟨g, cap, hv, _, _⟩ := hown.form (by omega)
  injection hv with h1 _ h3
  subst h1; subst h3
  have hrow := Row.of_own hown (by decide)
  obtain ⟨ad, had, _, hc⟩ := hrow (by rw [flat_len evc_len]; omega)
  cases had
  have cellj : ∀ j, j < 3 → ∀ u, (evc xs[i])[j]? = some u → w.cell? ⟨g, i * 3 + j, none⟩ = some u := fun j hj u hu => by
    have := hc (i * 3 + j) u ((flat_at evc_len hi j hj).trans hu)
    rwa [addr_add, Nat.zero_add] at this
  rw [hev]
  refine ⟨g, rfl, cellj 0 (by omega) _ rfl, cellj 1 (by omega) _ rfl, cellj 2 (by omega) _ rfl, ?_⟩
  rcases hown.2 with ⟨h2, _⟩ | ⟨g', cap', cur, hv, hg, hh, _⟩
  · cases h2
  · injection hv with e1 _ _
    injection e1 with e1
    injection e1 with e1
    subst e1
    exact (show Blk w g _ cur from hh).frozen _
end
def sumB (es : List Ent) (a c f t : Int) : Int := (es.map (fun e => if (e.q : Int) < f ∨ t < (e.q : Int) then 0 else (pam a c e.ps).sum)).sum
theorem sumB_snoc (es : List Ent) (e : Ent) (a c f t : Int) : sumB (es ++ [e]) a c f t = sumB es a c f t + if (e.q : Int) < f ∨ t < (e.q : Int) then 0 else (pam a c e.ps).sum := by
  unfold sumB
  rw [List.map_append, List.sum_append]
  simp
theorem pam_snoc (a c : Int) (ps : List Post) (p : Post) : (pam a c (ps ++ [p])).sum = (pam a c ps).sum + if p.acc = a ∧ p.ct = c then p.amt else 0 := by
  unfold pam
  rw [List.filter_append, List.map_append, List.sum_append]
  by_cases h : p.acc = a ∧ p.ct = c
  · simp [h]
  · simp [h]
theorem ents_take {xs : List EV} {i : Nat} (h : i < xs.length) : ents (xs.take (i + 1)) = ents (xs.take i) ++ [(xs.getD i ev0).e] := by
  unfold ents
  rw [take_end h, List.map_append, List.getD_eq_getElem?_getD, List.getElem?_eq_getElem h]
  rfl
/-- In Sum's loops: the answer's block, the sum's block. -/
structure AccS (w0 : World) (F : Nat → Prop) (x : XV) (s : Int) (w : World) : Prop where
  res : Blk w w0.heap.size 68 #[.int .i64 0, .slice none 0 0]
  bx : Blk w (w0.heap.size + 1) 68 #[.int .i64 x.s, .slice x.E x.l x.c]
  ex : Ex w (fun q => F q ∧ q ≠ w0.heap.size ∧ q ≠ w0.heap.size + 1) x.val s 10
  be : Below w0.heap.size w0 w
section
variable {w0 w w' : World} {F : Nat → Prop} {x : XV} {s s' : Int}
theorem AccS.later (h : AccS w0 F x s w) (hb : Below w.heap.size w w') : AccS w0 F x s w' := ⟨h.res.below hb h.res.lt, h.bx.below hb h.bx.lt, h.ex.below hb, h.be.trans (hb.mono h.be.size)⟩
theorem AccS.new (h : AccS w0 F x s w) (hF : New w0 F) : New w (fun q => F q ∧ q ≠ w0.heap.size ∧ q ≠ w0.heap.size + 1) := fun q hq => by
  have := h.bx.lt
  have := h.be.size
  exact ⟨hF q (by omega), by omega, by omega⟩
theorem AccS.set (h : AccS w0 F x s w) (v : XV) (hx : Ex w (fun q => F q ∧ q ≠ w0.heap.size ∧ q ≠ w0.heap.size + 1) v.val s' 10) : AccS w0 F v s' ((w.setCell ⟨w0.heap.size + 1, 0, none⟩ (.int .i64 v.s)).setCell ⟨w0.heap.size + 1, 1, none⟩ (.slice v.E v.l v.c)) := by
  refine ⟨(h.res.far (show w0.heap.size ≠ w0.heap.size + 1 by omega) _).far (show w0.heap.size ≠ w0.heap.size + 1 by omega) _, ?_, (hx.setCell (fun h => h.2.2 rfl) _).setCell (fun h => h.2.2 rfl) _, (h.be.setCell (by simp) _).setCell (by simp) _⟩
  have := (h.bx.set_ 0 (.int .i64 v.s)).set_ 1 (.slice v.E v.l v.c)
  simpa using this
theorem AccS.start (w : World) (F : Nat → Prop) : AccS w F ⟨0, none, 0, 0⟩ 0 ((w.alloc (.cells #[.int .i64 0, .slice none 0 0] 68)).alloc (.cells #[.int .i64 0, .slice none 0 0] 68)) := by
  refine ⟨(Blk.new w _ _).alloc _, ?_, ⟨[], none, 0, rfl, Nat.le_refl _, Nat.zero_le _, RowF.none_, EM.Tells.zero⟩, ((Below.refl _ _).alloc (Nat.le_refl _) _).alloc (by simp) _⟩
  have := Blk.new (w.alloc (.cells #[.int .i64 0, .slice none 0 0] 68)) 68 #[.int .i64 0, .slice none 0 0]
  simpa using this
end
def big (n : Int) (s : Int) : Prop := s ≤ n * 9223372036854775808 ∧ -(n * 9223372036854775808) ≤ s
theorem big_add {n s x : Int} (h : big n s) (hx : I64 x) : big (n + 1) (s + x) := by
  unfold big at *
  have h1 := hx.1
  have h2 := hx.2
  constructor <;> omega
theorem big_mono {n m s : Int} (h : big n s) (hm : n ≤ m) : big m s := by
  unfold big at *
  constructor <;> omega
theorem big_lt {n s : Int} (h : big n s) (hn : n ≤ 7000000) : (s.natAbs : Int) < 1000 ^ 10 := by
  unfold big at h
  have e : (1000 : Int) ^ 10 = 1000000000000000000000000000000 := by decide
  rw [e]
  omega
set_option maxHeartbeats 4000000 in
set_option maxRecDepth 100000 in
theorem rsum_is {b0 R per ce : Nat} {opn : Int} {xs : List EV} {E : Option Addr} {w : World} (hL : RLedW b0 R per opn xs E ce w) (hlen : xs.length ≤ 5000) (hok : ∀ x ∈ xs, x.e.q < 1000 ∧ x.e.ps.length ≤ 32 ∧ ∀ p ∈ x.e.ps, Post.I p)
    (F : Nat → Prop) (hF : New w F) (a c f t : Int) :
    Calls Try.prog 31 #[.pointer (some ⟨R, 0, none⟩), .int .i64 a, .int .i64 c, .int .i64 f, .int .i64 t] w (fun e w' => RetEx w F (sumB (ents xs) a c f t) 10 e w' ∧ big (160000 : Int) (sumB (ents xs) a c f t)) := by
  have HL := Lib.hid hL
  have HOK := Lib.hid hok
  have HF := Lib.hid hF
  have HS := Lib.hid (AccS.start w F)
  obtain ⟨n, hn⟩ : ∃ n, xs.length = n := ⟨_, rfl⟩
  have HN := Lib.hid hn
  rw [hn] at hlen
  clear hL hok hF hn
  go_enter Try.func31, Try.ntmps31
  go_wp2_with fail
  go_loopw [12] (fun v wr => ∃ (i : Nat) (X : XV), v = .int .i64 (i : Int) ∧ i ≤ n ∧ AccS w F X (sumB (ents (xs.take i)) a c f t) wr ∧ big (32 * (i : Int)) (sumB (ents (xs.take i)) a c f t)) (fun v _ => n - (intOf v).toNat)
  case atStart => exact ⟨0, _, rfl, by omega, HS.out, by show big (32 * ((0 : Nat) : Int)) 0; constructor <;> decide⟩
  case round =>
    clear HS
    obtain ⟨i, X, rfl, hi, hA, hbig⟩ := hrel
    have HA := Lib.hid hA
    have HBIG := Lib.hid hbig
    have hLr := HL.out.later hA.be
    have d2 : wr.cell? ⟨R, 2, none⟩ = some (.slice E xs.length ce) := hLr.led.cell 2
    rw [HN.out] at d2
    have i0 : (0 : Int) ≤ (i : Int) := Int.natCast_nonneg _
    clear hA hbig
    by_cases hlt : i < n
    · have hil : i < xs.length := by rw [HN.out]; exact hlt
      obtain ⟨g, rfl, e0, e1, e2, _⟩ := hLr.entry hil
      have htk := ents_take hil
      have hmem : xs.getD i ev0 ∈ xs := by rw [List.getD_eq_getElem?_getD, List.getElem?_eq_getElem hil]; exact List.getElem_mem hil
      obtain ⟨x, hx⟩ : ∃ x, xs.getD i ev0 = x := ⟨_, rfl⟩
      rw [hx] at e0 e1 e2 htk hmem
      obtain ⟨hq, hp32, hpI⟩ := HOK.out x hmem
      have hown := HL.out.pst x hmem
      obtain ⟨P, cp, hv, hcp⟩ := own_slice hown
      rw [hv] at e1 hown
      have HROW0 := Lib.hid ((Row.of_own hown (by decide)).weak (Nat.zero_le _))
      have HTK := Lib.hid htk
      have HPI := Lib.hid hpI
      obtain ⟨m, hm⟩ : ∃ m, x.e.ps.length = m := ⟨_, rfl⟩
      have HM := Lib.hid hm
      rw [hm] at e1 hp32
      obtain ⟨ps, hps⟩ : ∃ ps, x.e.ps = ps := ⟨_, rfl⟩
      rw [hps] at HROW0 HPI HM
      have HPS := Lib.hid hps
      obtain ⟨tu, htu⟩ : ∃ tu, x.e.turned = tu := ⟨_, rfl⟩
      rw [htu] at e2
      have i1 : (i : Int) < (n : Int) := by omega
      have HZ := Lib.hid (fun cs => Blk.new wr 52 cs)
      have HAZ := Lib.hid (fun ob => HA.out.later (alloc1 wr ob))
      obtain ⟨q, hq'⟩ : ∃ q : Nat, x.e.q = q := ⟨_, rfl⟩
      rw [hq'] at e0 hq
      have HQ := Lib.hid hq'
      have q0 : (0 : Int) ≤ (q : Int) := Int.natCast_nonneg _
      clear hown hv hcp htk hpI hm hps htu hq' hx hmem hLr
      have hout : ((q : Int) < f ∨ t < (q : Int)) → sumB (ents (xs.take (i + 1))) a c f t = sumB (ents (xs.take i)) a c f t := fun h => by
        rw [HTK.out, sumB_snoc, HQ.out, if_pos h]; omega
      by_cases h1 : (q : Int) < f
      · have HE := Lib.hid (hout (.inl h1))
        clear hout
        go_wp2_with fail
        go_roundw
        case rel => exact ⟨i + 1, X, by go_num, by omega, by rw [HE.out]; exact HAZ.out _, by rw [HE.out]; exact big_mono HBIG.out (by omega)⟩
        case measure => simp only [intOf]; omega
      · by_cases h2 : t < (q : Int)
        · have HE := Lib.hid (hout (.inr h2))
          clear hout
          go_wp2_with fail
          go_roundw
          case rel => exact ⟨i + 1, X, by go_num, by omega, by rw [HE.out]; exact HAZ.out _, by rw [HE.out]; exact big_mono HBIG.out (by omega)⟩
          case measure => simp only [intOf]; omega
        · have HE := Lib.hid (show sumB (ents (xs.take (i + 1))) a c f t = sumB (ents (xs.take i)) a c f t + (pam a c ps).sum by
            rw [HTK.out, sumB_snoc, HQ.out, if_neg (fun h => h.elim h1 h2), HPS.out])
          clear hout
          go_wp2_with fail
          obtain ⟨Z, hZ⟩ : ∃ Z, wr.heap.size = Z := ⟨_, rfl⟩
          have HZ1 := Lib.hid (HZ.out #[.int .i64 (q : Int), .slice P m cp, .bool tu])
          have HA1 := Lib.hid (HAZ.out (.cells #[.int .i64 (q : Int), .slice P m cp, .bool tu] 52))
          have hZw : w.heap.size + 1 < Z := by rw [← hZ]; exact HA.out.bx.lt
          rw [hZ] at HZ1
          try rw [hZ]
          generalize wr.alloc (.cells #[.int .i64 (q : Int), .slice P m cp, .bool tu] 52) = wz at *
          have hZl : Z < wz.heap.size := HZ1.out.lt
          clear hZ HZ HAZ e0 e1 e2 d2
          go_loopw [14] (fun v wr => ∃ (k : Nat) (X : XV), v = .int .i64 (k : Int) ∧ k ≤ m ∧ AccS w F X (sumB (ents (xs.take i)) a c f t + (pam a c (ps.take k)).sum) wr ∧ big (32 * (i : Int) + k) (sumB (ents (xs.take i)) a c f t + (pam a c (ps.take k)).sum) ∧ Blk wr Z 52 #[.int .i64 (q : Int), .slice P m cp, .bool tu]) (fun v _ => m - (intOf v).toNat)
          case atStart => exact ⟨0, X, rfl, by omega, by simpa [pam] using HA1.out, by simpa [pam] using HBIG.out, HZ1.out⟩
          case round =>
            clear HZ1 HA1 HA
            obtain ⟨k, X, rfl, hk, hA, hbig, hblk⟩ := hrel
            have hrow := HROW0.out.below hA.be
            have HA := Lib.hid hA
            have HBIG := Lib.hid hbig
            have HBLK := Lib.hid hblk
            have HROW := Lib.hid hrow
            have z1 : wr.cell? ⟨Z, 1, none⟩ = some (.slice P m cp) := hblk.cell 1
            have k0 : (0 : Int) ≤ (k : Int) := Int.natCast_nonneg _
            clear hA hbig hblk hrow
            by_cases hkm : k < m
            · have hkl : k < ps.length := by rw [HM.out]; exact hkm
              obtain ⟨ad, rfl, _, c0, c1, c2⟩ := Net.Row.post HROW.out hkl
              have hta := take_end hkl
              have hpm : ps[k] ∈ ps := List.getElem_mem _
              obtain ⟨p, hp⟩ : ∃ p, p = ps[k] := ⟨_, rfl⟩
              rw [← hp] at c0 c1 c2 hta hpm
              have hpI := (HPI.out p hpm).2.2
              have hps := pam_snoc a c (ps.take k) p
              rw [← hta] at hps
              obtain ⟨pa, pc, px⟩ := p
              dsimp only at c0 c1 c2 hps hpI
              have HPX := Lib.hid hpI
              have HPS2 := Lib.hid hps
              have k1 : (k : Int) < (m : Int) := by omega
              clear hta hpm hp hps hpI
              by_cases ha : pa = a
              · by_cases hc : pc = c
                · have HE2 := Lib.hid (show sumB (ents (xs.take i)) a c f t + (pam a c (ps.take (k + 1))).sum = sumB (ents (xs.take i)) a c f t + (pam a c (ps.take k)).sum + px by rw [HPS2.out, if_pos ⟨ha, hc⟩]; omega)
                  have HBG := Lib.hid (big_mono (big_add HBIG.out HPX.out) (show 32 * (i : Int) + k + 1 ≤ 32 * (i : Int) + ((k + 1 : Nat) : Int) by omega))
                  obtain ⟨sx, Xe, nx, cx⟩ := X
                  have a1 : wr.cell? ⟨w.heap.size + 1, 0, none⟩ = some (.int .i64 sx) := HA.out.bx.cell 0
                  have a2 : wr.cell? ⟨w.heap.size + 1, 1, none⟩ = some (.slice Xe nx cx) := HA.out.bx.cell 1
                  have a3 := HA.out.bx.frozen 0
                  have a4 := HA.out.bx.frozen 1
                  obtain ⟨s, hs⟩ : ∃ s, sumB (ents (xs.take i)) a c f t + (pam a c (ps.take k)).sum = s := ⟨_, rfl⟩
                  rw [hs] at HE2 HA HBG
                  subst ha hc
                  clear hs
                  go_wp2_with fail
                  have HLT := Lib.hid ((Later.refl wr).drew)
                  go_region_with
                    (first
                      | (go_at_call 33; refine (of_any (fun q => F q ∧ q ≠ w.heap.size ∧ q ≠ w.heap.size + 1) px _ ?_ HPX.out).mono ?_; exact (HA.out.later HLT.out).new HF.out; rintro e w3 ⟨v3, rfl, hx3, hb3⟩; have HLT := Lib.hid (HLT.out.trans hb3); have HX3 := Lib.hid hx3; clear hx3 hb3; have b1 := HLT.out.cell a1; have b2 := HLT.out.cell a2; have b3 := HLT.out.cell z1)
                      | (go_at_call 35; refine (plus_any (fun q => F q ∧ q ≠ w.heap.size ∧ q ≠ w.heap.size + 1) _ _ s px 10 _ ?_ ?_ ?_ (by omega)).mono ?_; exact (HA.out.later HLT.out).new HF.out; exact (HA.out.later HLT.out).ex; exact HX3.out.more (by omega); rintro e w6 ⟨v6, rfl, hx6, hb6⟩; obtain ⟨⟨s6, E6, l6, c6⟩, rfl⟩ := hx6.xv; have HLT := Lib.hid (HLT.out.trans hb6); have HX6 := Lib.hid (hx6.fewer (k' := 10) (big_lt HBG.out (by omega))); clear hx6 hb6; have HA6 := Lib.hid (HA.out.later HLT.out); have d1 : w6.cell? ⟨w.heap.size + 1, 0, none⟩ = some (.int .i64 sx) := HA6.out.bx.cell 0; have d2 : w6.cell? ⟨w.heap.size + 1, 1, none⟩ = some (.slice Xe nx cx) := HA6.out.bx.cell 1; have d3 := HA6.out.bx.frozen 0; have d4 := HA6.out.bx.frozen 1; try dsimp only [XV.val]))
                  all_goals
                    have HA7 := Lib.hid (HA6.out.set ⟨s6, E6, l6, c6⟩ HX6.out)
                    have HBK7 := Lib.hid (((HBLK.out.below HLT.out HBLK.out.lt).far (p := ⟨w.heap.size + 1, 0, none⟩) (show Z ≠ w.heap.size + 1 by omega) (.int .i64 s6)).far (p := ⟨w.heap.size + 1, 1, none⟩) (show Z ≠ w.heap.size + 1 by omega) (.slice E6 l6 c6))
                    go_wp2_with fail
                    go_roundw
                    case rel => exact ⟨k + 1, ⟨s6, E6, l6, c6⟩, by go_num, by omega, by rw [HE2.out]; exact HA7.out, by rw [HE2.out]; exact HBG.out, HBK7.out⟩
                    case measure => simp only [intOf]; omega
                · have HE2 := Lib.hid (show sumB (ents (xs.take i)) a c f t + (pam a c (ps.take (k + 1))).sum = sumB (ents (xs.take i)) a c f t + (pam a c (ps.take k)).sum by rw [HPS2.out, if_neg (fun h => hc h.2)]; omega)
                  have hcc : (pc == c) = false := by simpa using hc
                  subst ha
                  go_wp2_with fail
                  go_roundw
                  case rel => exact ⟨k + 1, X, by go_num, by omega, by rw [HE2.out]; exact HA.out, by rw [HE2.out]; exact big_mono HBIG.out (by omega), HBLK.out⟩
                  case measure => simp only [intOf]; omega
              · have HE2 := Lib.hid (show sumB (ents (xs.take i)) a c f t + (pam a c (ps.take (k + 1))).sum = sumB (ents (xs.take i)) a c f t + (pam a c (ps.take k)).sum by rw [HPS2.out, if_neg (fun h => ha h.1)]; omega)
                have haa : (pa == a) = false := by simpa using ha
                go_wp2_with fail
                go_roundw
                case rel => exact ⟨k + 1, X, by go_num, by omega, by rw [HE2.out]; exact HA.out, by rw [HE2.out]; exact big_mono HBIG.out (by omega), HBLK.out⟩
                case measure => simp only [intOf]; omega
            · obtain rfl : k = m := by omega
              rw [List.take_of_length_le (show ps.length ≤ k by rw [HM.out]; exact Nat.le_refl _)] at HA HBIG
              go_wp2_with fail
              go_roundw
              case rel => exact ⟨i + 1, X, by go_num, by omega, by rw [HE.out]; exact HA.out, by rw [HE.out]; exact big_mono HBIG.out (by omega)⟩
              case measure => simp only [intOf]; omega
    · obtain rfl : i = n := by omega
      rw [List.take_of_length_le (show xs.length ≤ i by rw [HN.out]; exact Nat.le_refl _)] at HA HBIG
      obtain ⟨sx, Xe, nx, cx⟩ := X
      have a1 : wr.cell? ⟨w.heap.size + 1, 0, none⟩ = some (.int .i64 sx) := HA.out.bx.cell 0
      have a2 : wr.cell? ⟨w.heap.size + 1, 1, none⟩ = some (.slice Xe nx cx) := HA.out.bx.cell 1
      have r1 : wr.cell? ⟨w.heap.size, 0, none⟩ = some (.int .i64 0) := HA.out.res.cell 0
      have r2 : wr.cell? ⟨w.heap.size, 1, none⟩ = some (.slice none 0 0) := HA.out.res.cell 1
      have r3 := HA.out.res.frozen 0
      have r4 := HA.out.res.frozen 1
      go_wp2_with fail
      refine bodyPost_ret (v := .agg #[.int .i64 sx, .slice Xe nx cx]) ?_ rfl ⟨⟨_, rfl, ?_, ?_⟩, big_mono HBIG.out (by omega)⟩
      · simp [results, Try.results31, go_sem, r1, r2]
      · exact ((HA.out.ex.setCell (fun h => h.2.1 rfl) _).setCell (fun h => h.2.1 rfl) _).weak (fun q hq _ => hq.1)
      · exact (HA.out.be.setCell (Nat.le_refl _) _).setCell (Nat.le_refl _) _
section
open Go.RowKit Go.Proofs.Ytmijcgcppankcaa.Cents Go.Proofs.Ytmijcgcppankcaa.MV Go.Proofs.Ytmijcgcppankcaa.Net Go.Proofs.Ytmijcgcppankcaa.CO Go.Proofs.Ytmijcgcppankcaa.Exact
open Go.Maps (Keyed)
set_option linter.unusedVariables false
set_option linter.unusedSimpArgs false

theorem sumB_cons (e : Ent) (es : List Ent) (a c f t : Int) : sumB (e :: es) a c f t = (if (e.q : Int) < f ∨ t < (e.q : Int) then 0 else (pam a c e.ps).sum) + sumB es a c f t := by
  unfold sumB
  rw [List.map_cons, List.sum_cons]
theorem sumB_out {es : List Ent} {a c f t : Int} (h : ∀ e ∈ es, (e.q : Int) < f ∨ t < (e.q : Int)) : sumB es a c f t = 0 := by
  induction es with
  | nil => rfl
  | cons e es ih => rw [sumB_cons, if_pos (h e (List.mem_cons_self ..)), ih (fun x hx => h x (List.mem_cons_of_mem _ hx))]; rfl
theorem sumB_at (es : List Ent) (a c : Int) (q : Nat) : sumB es a c (q : Int) (q : Int) = movL es a c q := by
  induction es with
  | nil => rfl
  | cons e es ih =>
    rw [sumB_cons, movL_cons, ih]
    by_cases h : e.q = q
    · rw [if_neg (by omega), if_pos h]
    · rw [if_pos (by omega), if_neg h]
theorem sumF_one (n q : Nat) (x : Int) : sumF n (fun i => if q = i then x else 0) = if q < n then x else 0 := by
  induction n with
  | zero => rfl
  | succ n ih =>
    rw [sumF_succ, ih]
    by_cases h : q < n
    · rw [if_pos h, if_neg (by omega), if_pos (by omega)]; omega
    · rw [if_neg h]
      by_cases h2 : q = n
      · rw [if_pos h2, if_pos (by omega)]; omega
      · rw [if_neg h2, if_neg (by omega)]; rfl
theorem sumB_to (es : List Ent) (a c : Int) (q : Nat) : sumB es a c 0 (q : Int) = sumF (q + 1) (movL es a c) := by
  induction es with
  | nil =>
    show (0 : Int) = _
    rw [sumF_same (g := movL [] a c) (g' := fun _ => 0) (fun i _ => rfl), sumF_zero]
  | cons e es ih =>
    rw [sumB_cons, ih, sumF_same (g := movL (e :: es) a c) (g' := fun i => (if e.q = i then (pam a c e.ps).sum else 0) + movL es a c i) (fun i _ => movL_cons e es a c i), sumF_add, sumF_one]
    by_cases h : e.q < q + 1
    · rw [if_pos h, if_neg (by omega)]
    · rw [if_neg h, if_pos (by omega)]
theorem sumB_mov {per : Nat} {s : St} (h : LedP per s) (a c x : Int) : sumB s.es a c x x = movR per s.es a c x := by
  unfold movR
  by_cases hp : hasP per x
  · obtain ⟨q, rfl⟩ : ∃ q : Nat, x = (q : Int) := ⟨x.toNat, by unfold hasP at hp; omega⟩
    rw [if_pos hp, Int.toNat_natCast, sumB_at]
  · rw [if_neg hp]
    refine sumB_out fun e he => ?_
    have := (h.ok e he).1
    unfold hasP at hp
    omega
theorem sumB_bal {per : Nat} {s : St} (h : LedP per s) (a c x : Int) (hx : x < (per : Int)) : sumB s.es a c 0 x = balR per s.es a c x := by
  by_cases hp : hasP per x
  · obtain ⟨q, rfl⟩ : ∃ q : Nat, x = (q : Int) := ⟨x.toNat, by unfold hasP at hp; omega⟩
    have hq : q < per := by unfold hasP at hp; omega
    rw [sumB_to, balR_in hq, balL_sum hq]
  · unfold balR
    rw [if_neg hp]
    refine sumB_out fun e he => ?_
    unfold hasP at hp
    omega
theorem balR_past {per : Nat} {es : List Ent} {a c x : Int} (hx : (per : Int) ≤ x) : balR per es a c x = 0 := by
  unfold balR
  rw [if_neg (by unfold hasP; omega)]
theorem movR_I {per : Nat} {s : St} (h : LedP per s) {a k : Int} (ha : I64 a) (hk : I64 k) (x : Int) : I64 (movR per s.es a k x) := by
  unfold movR
  split
  · rename_i hp
    unfold hasP at hp
    exact (h.fit a k ha hk x.toNat (by omega)).1
  · exact ⟨by decide, by decide⟩
theorem sumB_tot {per : Nat} {es : List Ent} (a : Int) {q : Nat} (hq : q < per) : sumF 40 (fun c => sumB es a (c : Int) 0 (q : Int)) = totS per es a q := by
  unfold totS
  exact sumF_same fun i _ => by rw [sumB_to, balL_sum hq]
/-- What the reference's calls leave: all but its ledgers' and entries' blocks. -/
structure Kq (b0 : Nat) (w w' : World) : Prop where
  os : w'.os = w.os
  tape : w'.tape = w.tape
  output : w'.output = w.output
  size : w.heap.size ≤ w'.heap.size
  low : ∀ i, i < b0 → w'.heap[i]? = w.heap[i]?
  oth : ∀ i, i < w.heap.size → (∀ cs, ¬ Blk w i 43 cs) → (∀ cs, ¬ Blk w i 52 cs) → w'.heap[i]? = w.heap[i]?
theorem blk_type {w : World} {g t t' : Nat} {cs cs' : Array Value} (h : Blk w g t cs) (h' : Blk w g t' cs') : t = t' := by
  have h1 : w.heap[g]? = _ := h
  have h2 : w.heap[g]? = _ := h'
  rw [h1] at h2
  injection h2 with h2
  injection h2
section
variable {b0 : Nat} {w w1 w2 w' : World}
theorem Kq.refl (b0 : Nat) (w : World) : Kq b0 w w := ⟨rfl, rfl, rfl, Nat.le_refl _, fun _ _ => rfl, fun _ _ _ _ => rfl⟩
theorem Kq.trans (h : Kq b0 w w1) (k : Kq b0 w1 w2) : Kq b0 w w2 := by
  refine ⟨k.os.trans h.os, k.tape.trans h.tape, k.output.trans h.output, Nat.le_trans h.size k.size, fun i hi => (k.low i hi).trans (h.low i hi), fun i hi h1 h2 => ?_⟩
  have he := h.oth i hi h1 h2
  exact (k.oth i (Nat.lt_of_lt_of_le hi h.size) (fun cs hc => h1 cs (he.symm.trans hc)) (fun cs hc => h2 cs (he.symm.trans hc))).trans he
theorem Kq.of (hb : b0 ≤ w.heap.size) (h : Below w.heap.size w w') : Kq b0 w w' :=
  ⟨h.os, h.tape, h.output, h.size, fun i hi => h.block i (by omega), fun i hi _ _ => h.block i hi⟩
theorem Kq.below {B : Nat} {W : World} (h : Kq b0 w w') (hB : Below B W w) (hb : B ≤ b0) : Below B W w' :=
  ⟨h.os.trans hB.os, h.tape.trans hB.tape, h.output.trans hB.output, Nat.le_trans hB.size h.size, fun i hi => (h.low i (by omega)).trans (hB.block i hi)⟩
def RB (w : World) (q : Nat) : Prop := (∃ cs, Blk w q 43 cs) ∨ ∃ cs, Blk w q 52 cs
theorem Kq.fr (h : Kq b0 w w') : Fr (RB w) w w' :=
  ⟨h.os, h.tape, h.output, h.size, fun i hi hn => h.oth i hi (fun cs hc => hn (.inl ⟨cs, hc⟩)) (fun cs hc => hn (.inr ⟨cs, hc⟩))⟩
theorem RB.no {g t : Nat} {cs : Array Value} (h : Blk w g t cs) (h1 : t ≠ 43) (h2 : t ≠ 52) : ¬ RB w g := by
  rintro (⟨cs', hc⟩ | ⟨cs', hc⟩)
  · exact h1 (blk_type h hc)
  · exact h2 (blk_type h hc)
theorem RB.own {b e s n : Nat} {v : Value} {xs : List Value} (h : w.ownsRow b e s v n xs) (h1 : e ≠ 43) (h2 : e ≠ 52) : ∀ k, v.ownBlock = some k → ¬ RB w k := fun k hk => by
  rintro (⟨cs', hc⟩ | ⟨cs', hc⟩)
  · exact own_blkne h hc (Ne.symm h1) hk.symm
  · exact own_blkne h hc (Ne.symm h2) hk.symm
theorem Led.kq {L per : Nat} {s : St} {b1 : Nat} (h : Led b0 L per s w) (hk : Kq b1 w w') : Led b0 L per s w' := by
  obtain ⟨h1, xs, E, c, M, f, hL, he⟩ := h
  have hf := hk.fr
  refine ⟨Nat.le_trans h1 hk.size, xs, E, c, M, f, ⟨hL.led.fr hf (RB.no hL.led (by decide) (by decide)), mapV_same hL.map (hf.block M hL.map.lt ?_), fun a c v ha hc hv => ?_, hL.no, hL.keys, own_fr hL.own hf (RB.own hL.own (by decide) (by decide)), fun x hx => own_fr (hL.pst x hx) hf (RB.own (hL.pst x hx) (by decide) (by decide)), hL.hL, hL.hM⟩, he⟩
  · rintro (⟨cs', hc⟩ | ⟨cs', hc⟩)
    · exact hL.map.not_cells hc rfl
    · exact hL.map.not_cells hc rfl
  · obtain ⟨g, e, hg⟩ := hL.row a c v ha hc hv
    exact ⟨g, e, hg.fr hf (RB.no hg (by decide) (by decide))⟩
end
/-- The reference's ledger holds the same plain data. -/
def RfL (b0 R per : Nat) (s : St) (w : World) : Prop := b0 ≤ w.heap.size ∧ ∃ xs E c, RLedW b0 R per s.opn xs E c w ∧ ents xs = s.es
section
variable {b0 R per : Nat} {s : St} {w w' : World}
theorem RfL.size (h : RfL b0 R per s w) : b0 ≤ w.heap.size := h.1
theorem RfL.later (h : RfL b0 R per s w) (hb : Below w.heap.size w w') : RfL b0 R per s w' := by
  obtain ⟨h1, xs, E, c, hL, he⟩ := h
  exact ⟨Nat.le_trans h1 hb.size, xs, E, c, hL.later hb, he⟩
theorem RfL.kp {b1 : Nat} (h : RfL b0 R per s w) (hk : Kp b1 w w') : RfL b0 R per s w' := by
  obtain ⟨h1, xs, E, c, hL, he⟩ := h
  exact ⟨Nat.le_trans h1 hk.size, xs, E, c, ⟨hk.blk hL.led (by decide) (by decide), hk.own hL.own (by decide) (by decide), fun x hx => hk.own (hL.pst x hx) (by decide) (by decide), hL.hR⟩, he⟩
theorem LedP.hok (hG : LedP per s) {xs : List EV} (he : ents xs = s.es) : ∀ x ∈ xs, x.e.q < 1000 ∧ x.e.ps.length ≤ 32 ∧ ∀ p ∈ x.e.ps, Post.I p := fun x hx => by
  have hh := hG.ok x.e (by rw [← he]; exact List.mem_map_of_mem hx)
  have := hG.per2
  exact ⟨by have := hh.1; omega, hh.2.2.1, fun p hp => (hh.2.2.2.2 p hp).1⟩
theorem rsum_led (hL : RfL b0 R per s w) (hG : LedP per s) (F : Nat → Prop) (hF : New w F) (a c f t : Int) :
    Calls Try.prog 31 #[lv R, .int .i64 a, .int .i64 c, .int .i64 f, .int .i64 t] w (fun e w' => RetEx w F (sumB s.es a c f t) 10 e w' ∧ big (160000 : Int) (sumB s.es a c f t)) := by
  obtain ⟨h1, xs, E, ce, hW, he⟩ := hL
  have := rsum_is hW (by rw [← ents_len, he]; exact hG.len) (hG.hok he) F hF a c f t
  rw [he] at this
  exact this
theorem fit_as (v : Value) (n : Int) (w : World) (h : Ex w (fun _ => True) v n 10) (u x : Int) (hu : fitN n = u ∧ fitE n = x) :
    Calls Try.prog 30 #[v] w fun e w' => e = .returned (.tuple #[.int .i64 u, .int .i64 x]) ∧ Below w.heap.size w w' := by
  obtain ⟨rfl, rfl⟩ := hu
  exact fit_any v n 10 w h (by decide) (by decide)
theorem fit_I {n v : Int} (hv : n = v) (h : I64 v) : fitN n = v ∧ fitE n = 0 := by
  subst hv
  unfold fitN fitE
  rw [if_pos h, if_pos h]
  exact ⟨rfl, rfl⟩
set_option maxHeartbeats 1000000 in
set_option maxRecDepth 100000 in
theorem rmoved_led (hL : RfL b0 R per s w) (hG : LedP per s) (a k x : Int) (ha : I64 a) (hk : I64 k) (v : Int) (hv : movR per s.es a k x = v) :
    Calls Try.prog 20 #[lv R, .int .i64 a, .int .i64 k, .int .i64 x] w fun e w' => e = .returned (.int .i64 v) ∧ Below w.heap.size w w' := by
  have HS := Lib.hid (rsum_led hL hG (fun _ => True) (fun _ _ => trivial) a k x x)
  have HV := Lib.hid (fit_I ((sumB_mov hG a k x).trans hv) (by rw [← hv]; exact movR_I hG ha hk x))
  clear hL hG ha hk hv
  go_enter Try.func20, Try.ntmps20
  go_wp2_with fail
  refine HS.out.mono ?_
  rintro e w1 ⟨⟨v1, rfl, hx, hb⟩, _⟩
  have HB := Lib.hid hb
  have HF := Lib.hid (fit_as v1 _ w1 hx v 0 HV.out)
  clear hx hb
  go_wp2_with fail
  refine HF.out.mono ?_
  rintro e w2 ⟨rfl, hb2⟩
  have HB := Lib.hid (HB.out.trans (hb2.mono HB.out.size))
  clear hb2
  go_wp2_with fail
  go_ret
  exact ⟨rfl, HB.out⟩
set_option maxHeartbeats 1000000 in
set_option maxRecDepth 100000 in
theorem rbalance_led (hL : RfL b0 R per s w) (hG : LedP per s) (a k x : Int) (ha : I64 a) (hk : I64 k) (v : Int) (hv : balR per s.es a k x = v) :
    Calls Try.prog 22 #[lv R, .int .i64 a, .int .i64 k, .int .i64 x] w fun e w' => e = .returned (.int .i64 v) ∧ Below w.heap.size w w' := by
  have HS := Lib.hid (rsum_led hL hG (fun _ => True) (fun _ _ => trivial) a k 0 x)
  have c0 : w.cell? ⟨R, 0, none⟩ = some (.int .i64 (per : Int)) := by obtain ⟨_, xs, E, c, hW, _⟩ := hL; exact hW.led.cell 0
  by_cases hx : x < (per : Int)
  · have HV := Lib.hid (fit_I ((sumB_bal hG a k x hx).trans hv) (by rw [← hv]; exact balR_I hG ha hk x))
    clear hL hG ha hk hv
    go_enter Try.func22, Try.ntmps22
    go_wp2_with fail
    refine HS.out.mono ?_
    rintro e w1 ⟨⟨v1, rfl, hx, hb⟩, _⟩
    have HB := Lib.hid hb
    have HF := Lib.hid (fit_as v1 _ w1 hx v 0 HV.out)
    clear hx hb
    go_wp2_with fail
    refine HF.out.mono ?_
    rintro e w2 ⟨rfl, hb2⟩
    have HB := Lib.hid (HB.out.trans (hb2.mono HB.out.size))
    clear hb2
    go_wp2_with fail
    go_ret
    exact ⟨rfl, HB.out⟩
  · obtain rfl : v = 0 := by rw [← hv]; exact balR_past (by omega)
    have hx2 : (per : Int) ≤ x := by omega
    clear hL hG ha hk hv HS hx
    go_enter Try.func22, Try.ntmps22
    go_wp2_with fail
    go_ret
    exact ⟨rfl, Below.refl _ _⟩
theorem big_plus {n m x y : Int} (h : big n x) (k : big m y) : big (n + m) (x + y) := by
  unfold big at *
  constructor <;> omega
theorem fit_tot {per : Nat} {es : List Ent} {a x : Int} (h : totOk per a x) : fitN (sumF 40 (fun c => sumB es a (c : Int) 0 x)) = totN per es a x ∧ fitE (sumF 40 (fun c => sumB es a (c : Int) 0 x)) = totE per es a x := by
  obtain ⟨q, rfl⟩ : ∃ q : Nat, x = (q : Int) := ⟨x.toNat, by have := h.2.2; unfold hasP at this; omega⟩
  have hq : q < per := by have := h.2.2; unfold hasP at this; omega
  unfold totN totE
  rw [if_pos h, if_pos h, Int.toNat_natCast, sumB_tot a hq]
  exact ⟨rfl, rfl⟩
set_option maxHeartbeats 2000000 in
set_option maxRecDepth 100000 in
theorem rtotal_led (hL : RfL b0 R per s w) (hG : LedP per s) (a x : Int) (u v : Int) (hS : totN per s.es a x = u ∧ totE per s.es a x = v) :
    Calls Try.prog 18 #[lv R, .int .i64 a, .int .i64 x] w fun e w' => e = .returned (.tuple #[.int .i64 u, .int .i64 v]) ∧ Below w.heap.size w w' := by
  have c0 : w.cell? ⟨R, 0, none⟩ = some (.int .i64 (per : Int)) := by obtain ⟨_, xs, E, c, hW, _⟩ := hL; exact hW.led.cell 0
  by_cases h : totOk per a x
  rotate_left
  · obtain ⟨rfl, rfl⟩ : u = 0 ∧ v = 1 := by
      obtain ⟨rfl, rfl⟩ := hS
      unfold totN totE; rw [if_neg h, if_neg h]; exact ⟨rfl, rfl⟩
    unfold totOk hasP at h
    clear hL hG hS
    go_enter Try.func18, Try.ntmps18
    by_cases h1 : a < 0
    · go_wp2_with fail
      go_ret2
      exact ⟨rfl, Below.refl _ _⟩
    · by_cases h2 : 3 < a
      · go_wp2_with fail
        go_ret2
        exact ⟨rfl, Below.refl _ _⟩
      · by_cases h3 : x < 0
        · go_wp2_with fail
          go_ret2
          exact ⟨rfl, Below.refl _ _⟩
        · have h4 : (per : Int) ≤ x := by omega
          clear h
          go_wp2_with fail
          go_ret2
          exact ⟨rfl, Below.refl _ _⟩
  · have HV := Lib.hid (fit_tot (es := s.es) h)
    have HS := Lib.hid hS
    unfold totOk hasP at h
    obtain ⟨g1, g2, g3, g4⟩ := h
    have g5 : ¬ (3 < a) := by omega
    have g6 : ¬ (a < 0) := by omega
    have g7 : ¬ (x < 0) := by omega
    have g8 : ¬ ((per : Int) ≤ x) := by omega
    have HL := Lib.hid hL
    have HG := Lib.hid hG
    clear hL hG hS
    go_enter Try.func18, Try.ntmps18
    go_wp2_with fail
    have HZ := Lib.hid (AccW.zero w w 10 (Below.refl _ _))
    go_loopw [9] (fun v wr => ∃ (c : Nat) (X : XV), v = .int .i64 (c : Int) ∧ c ≤ 40 ∧ AccW w w.heap.size X (sumF c (fun i => sumB s.es a (i : Int) 0 x)) 10 wr ∧ big (160000 * (c : Int)) (sumF c (fun i => sumB s.es a (i : Int) 0 x))) (fun v _ => 40 - (intOf v).toNat)
    case atStart => exact ⟨0, _, rfl, by omega, HZ.out, by show big (160000 * ((0 : Nat) : Int)) 0; constructor <;> decide⟩
    case round =>
      clear HZ
      obtain ⟨c, X, rfl, hc, hA, hbig⟩ := hrel
      have HA := Lib.hid hA
      have HBIG := Lib.hid hbig
      have hAb := hA.be
      have HRL := Lib.hid (HL.out.later hAb)
      obtain ⟨sx, Xe, nx, cx⟩ := X
      have a1 : wr.cell? ⟨w.heap.size, 0, none⟩ = some (.int .i64 sx) := hA.bx.cell 0
      have a2 : wr.cell? ⟨w.heap.size, 1, none⟩ = some (.slice Xe nx cx) := hA.bx.cell 1
      have a3 := hA.bx.frozen 0
      have a4 := hA.bx.frozen 1
      have k0 : (0 : Int) ≤ (c : Int) := Int.natCast_nonneg _
      have HSU := Lib.hid (sumF_succ c (fun i => sumB s.es a (i : Int) 0 x))
      obtain ⟨S0, hS0⟩ : ∃ S0, sumF c (fun i => sumB s.es a (i : Int) 0 x) = S0 := ⟨_, rfl⟩
      rw [hS0] at HA HBIG HSU
      have HS0 := Lib.hid hS0
      clear hA hbig hAb hS0
      by_cases hlt : c < 40
      · have k1 : (c : Int) < 40 := by omega
        go_wp2_with fail
        have HLT := Lib.hid ((Later.refl wr).drew)
        go_region_with
          (first
            | (go_at_call 31; refine (rsum_led (HRL.out.later HLT.out) HG.out (fun q => q ≠ w.heap.size) ?_ a (c : Int) 0 x).mono ?_; exact (HA.out.later HLT.out).new; rintro e w3 ⟨⟨v3, rfl, hx3, hb3⟩, hg3⟩; have HLT := Lib.hid (HLT.out.trans hb3); have HX3 := Lib.hid hx3; have HG3 := Lib.hid hg3; clear hx3 hb3 hg3; have b1 := HLT.out.cell a1; have b2 := HLT.out.cell a2)
            | (go_at_call 35; refine (plus_any (fun q => q ≠ w.heap.size) _ _ S0 (sumB s.es a (c : Int) 0 x) 10 _ ?_ ?_ ?_ (by omega)).mono ?_; exact (HA.out.later HLT.out).new; exact (HA.out.later HLT.out).ex; exact HX3.out; rintro e w6 ⟨v6, rfl, hx6, hb6⟩; obtain ⟨⟨s6, E6, l6, c6⟩, rfl⟩ := hx6.xv; have HLT := Lib.hid (HLT.out.trans hb6); have HBG := Lib.hid (big_plus HBIG.out HG3.out); have HX6 := Lib.hid (hx6.fewer (k' := 10) (big_lt HBG.out (by omega))); clear hx6 hb6; have HA6 := Lib.hid (HA.out.later HLT.out); have d1 : w6.cell? ⟨w.heap.size, 0, none⟩ = some (.int .i64 sx) := HA6.out.bx.cell 0; have d2 : w6.cell? ⟨w.heap.size, 1, none⟩ = some (.slice Xe nx cx) := HA6.out.bx.cell 1; have d3 := HA6.out.bx.frozen 0; have d4 := HA6.out.bx.frozen 1; try dsimp only [XV.val]))
        all_goals
          have HA7 := Lib.hid (HA6.out.set ⟨s6, E6, l6, c6⟩ HX6.out)
          go_wp2_with fail
          go_roundw
          case rel => exact ⟨c + 1, ⟨s6, E6, l6, c6⟩, by go_num, by omega, by rw [HSU.out]; exact HA7.out, by rw [HSU.out]; exact big_mono HBG.out (by omega)⟩
          case measure => simp only [intOf]; omega
      · obtain rfl : c = 40 := by omega
        have HF := Lib.hid (fun w1 hx => fit_as (XV.val ⟨sx, Xe, nx, cx⟩) S0 w1 hx u v (by rw [← HS0.out, HV.out.1, HV.out.2]; exact HS.out))
        go_wp2_with fail
        refine (HF.out _ (HA.out.ex.weak (fun _ _ _ => trivial))).mono ?_
        rintro e w2 ⟨rfl, hb2⟩
        have HB := Lib.hid (HA.out.be.trans (hb2.mono HA.out.be.size))
        clear hb2
        go_wp2_with fail
        go_ret2
        exact ⟨rfl, HB.out⟩
set_option maxHeartbeats 1000000 in
set_option maxRecDepth 100000 in
theorem rclose_led (hL : RfL b0 R per s w) (hG : LedP per s) (x : Int) :
    Calls Try.prog 14 #[lv R, .int .i64 x] w fun e w' => e = .returned (.int .i64 (closeE per s.opn x)) ∧ RfL b0 R per (cS per s x) w' ∧ Kq b0 w w' := by
  obtain ⟨h1, xs, E, c, hW, he⟩ := hL
  have c0 : w.cell? ⟨R, 0, none⟩ = some (.int .i64 (per : Int)) := hW.led.cell 0
  have c1 : w.cell? ⟨R, 1, none⟩ = some (.int .i64 s.opn) := hW.led.cell 1
  have c2 := hW.led.frozen 1
  have o0 := hG.o0
  have o1 := hG.o1
  have p2 := hG.per2
  by_cases hx : hasP per x ∧ x = s.opn
  · have HE := Lib.hid (show closeE per s.opn x = 0 by unfold closeE; rw [if_pos hx])
    have HR := Lib.hid (show RfL b0 R per (cS per s x) (w.setCell ⟨R, 1, none⟩ (.int .i64 (s.opn + 1))) ∧ Kq b0 w (w.setCell ⟨R, 1, none⟩ (.int .i64 (s.opn + 1))) from by
      unfold cS
      rw [HE.out, if_pos rfl]
      have hb := hW.led.set_ 1 (.int .i64 (s.opn + 1))
      refine ⟨⟨by simpa [World.setCell] using h1, xs, E, c, ⟨by simpa using hb, ?_, fun z hz => ?_, hW.hR⟩, he⟩, ?_⟩
      · exact own_fr hW.own ((Fr.refl (fun q => q = R) w).setCell (fun _ => rfl) _) (fun k hk e => own_blkne hW.own hW.led (by decide) (by rw [hk, e]))
      · exact own_fr (hW.pst z hz) ((Fr.refl (fun q => q = R) w).setCell (fun _ => rfl) _) (fun k hk e => own_blkne (hW.pst z hz) hW.led (by decide) (by rw [hk, e]))
      · have hf := (Fr.refl (fun q => q = R) w).setCell (p := ⟨R, 1, none⟩) (fun _ => rfl) (.int .i64 (s.opn + 1))
        exact ⟨hf.os, hf.tape, hf.output, hf.size, fun i hi => hf.block i (by omega) (by have := hW.hR; omega), fun i hi hn _ => hf.block i hi (fun e => hn _ (e ▸ hW.led))⟩)
    obtain ⟨hx1, rfl⟩ := hx
    unfold hasP at hx1
    have g1 : ¬ ((per : Int) ≤ s.opn) := by omega
    have g2 : s.opn < 9223372036854775807 := by omega
    rw [HE.out]
    generalize s.opn = o at *
    clear hG hW he hx1
    go_enter Try.func14, Try.ntmps14
    go_wp2_with fail
    go_ret
    exact ⟨rfl, HR.out⟩
  · have HE := Lib.hid (show closeE per s.opn x = 1 by unfold closeE; rw [if_neg hx])
    have HR := Lib.hid (show RfL b0 R per (cS per s x) w ∧ Kq b0 w w from by
      unfold cS
      rw [HE.out, if_neg (by decide)]
      exact ⟨⟨h1, xs, E, c, hW, he⟩, Kq.refl _ _⟩)
    rw [HE.out]
    unfold hasP at hx
    generalize s.opn = o at *
    by_cases hxo : x = o
    · subst hxo
      have g1 : (per : Int) ≤ x := by omega
      clear hG hW he hx
      go_enter Try.func14, Try.ntmps14
      go_wp2_with fail
      go_ret
      exact ⟨rfl, HR.out⟩
    · have g1 : (x == o) = false := by simpa using hxo
      clear hG hW he hx
      go_enter Try.func14, Try.ntmps14
      go_wp2_with fail
      go_ret
      exact ⟨rfl, HR.out⟩
end
set_option maxHeartbeats 1000000 in
set_option maxRecDepth 100000 in
theorem rnew_led (per : Nat) (w : World) (h : newE (per : Int) = 0) :
    Calls Try.prog 10 #[.int .i64 (per : Int)] w fun e w' => ∃ R : Nat, e = .returned (.tuple #[lv R, .int .i64 0]) ∧ RfL w.heap.size R per ⟨0, []⟩ w' ∧ Below w.heap.size w w' := by
  have hp : 1 ≤ (per : Int) ∧ (per : Int) ≤ 240 := by
    unfold newE at h
    by_cases c : 1 ≤ (per : Int) ∧ (per : Int) ≤ 240
    · exact c
    · rw [if_neg c] at h; omega
  obtain ⟨g1, g2⟩ := hp
  have g3 : ¬ ((per : Int) < 1) := by omega
  have g4 : ¬ (240 < (per : Int)) := by omega
  have HB := Lib.hid (Blk.new w 43 #[.int .i64 (per : Int), .int .i64 0, .slice none 0 0])
  have HA := Lib.hid (alloc1 w (.cells #[.int .i64 (per : Int), .int .i64 0, .slice none 0 0] 43))
  clear h
  go_enter Try.func10, Try.ntmps10
  go_wp2_with fail
  go_ret2
  exact ⟨w.heap.size, rfl, ⟨HA.out.size, [], none, 0, ⟨HB.out, ⟨rfl, .inl ⟨rfl, rfl⟩⟩, (fun x hx => by cases hx), Nat.le_refl _⟩, rfl⟩, HA.out⟩
set_option maxHeartbeats 1000000 in
set_option maxRecDepth 100000 in
theorem rnew_no (x : Int) (w : World) (h : newE x ≠ 0) :
    Calls Try.prog 10 #[.int .i64 x] w fun e w' => e = .returned (.tuple #[.pointer none, .int .i64 1]) ∧ w = w' := by
  have hp : ¬ (1 ≤ x ∧ x ≤ 240) := fun c => h (by unfold newE; rw [if_pos c])
  clear h
  by_cases h1 : x < 1
  · clear hp
    go_enter Try.func10, Try.ntmps10
    go_wp2_with fail
    go_ret2
    exact ⟨rfl, rfl⟩
  · have h2 : 240 < x := by omega
    clear hp
    go_enter Try.func10, Try.ntmps10
    go_wp2_with fail
    go_ret2
    exact ⟨rfl, rfl⟩
end
section
open Go.RowKit Go.Proofs.Ytmijcgcppankcaa.Cents Go.Proofs.Ytmijcgcppankcaa.MV Go.Proofs.Ytmijcgcppankcaa.Net Go.Proofs.Ytmijcgcppankcaa.CO Go.Proofs.Ytmijcgcppankcaa.Exact
open Go.Maps (Keyed)
set_option linter.unusedVariables false
set_option linter.unusedSimpArgs false

theorem amts_snoc (c : Int) (ps : List Post) (p : Post) : (amts c (ps ++ [p])).sum = (amts c ps).sum + if p.ct = c then p.amt else 0 := by
  unfold amts
  rw [List.filter_append, List.map_append, List.sum_append]
  by_cases h : p.ct = c
  · simp [h]
  · simp [h]
theorem sgn_zero (n : Int) : EM.sgn n = 0 ↔ n = 0 := by
  unfold EM.sgn
  repeat' split
  all_goals omega
theorem ex_sgn {w : World} {F : Nat → Prop} {x : XV} {n : Int} {k : Nat} (h : Ex w F x.val n k) : x.s = EM.sgn n := by
  obtain ⟨ds, A, c, e, _⟩ := h
  unfold XV.val at e
  injection e with e
  injection e with e
  injection e with e _
  injection e with _ e
theorem run_app_none {P : Program} (w : World) {t ty e : TypeId} {i : TypeInfo} (ht : P.underlying t = some (.slice e)) (hi : P.info? e = some i) (A B : Option Addr) (n c d : Nat) (hn : n ≤ c) :
    (Builtin.append_ #[t, t] ty #[.slice A n c, .slice B 0 d]).run P w = .ok (.slice A n c) w := by
  cases A <;> cases B <;> simp [Builtin.append_, run_underlying ht, sizeOf, typeInfo, hi, Builtin.lenOf, Builtin.firstCells, loadCells, loadCellsFrom, storeCells, hn]
theorem own_lec {w : World} {base e size n c : Nat} {A : Option Addr} {xs : List Value} (h : w.ownsRow base e size (.slice A n c) n xs) : n ≤ c := by
  rcases h.2 with ⟨hv, hn⟩ | ⟨g, cap, cur, hv, _, _, hc, _⟩
  · injection hv with _ h1 h2; omega
  · injection hv with _ h1 h2; omega
/-- 'append' of any slice, also an empty one, as a step of a region that draws. -/
theorem step_apps {P : Program} {w : World} {t e size bytes : Nat} (hE : ElemT P t e size bytes) {ops : Array Oper} {o : Oper} {a : Act} {K : Act → World → Prop} {Q : Exit → Act → World → Prop} {E : Prop} (hgd : o.guard = none) (s x : Operand)
    (ho : o.op = .call { callee := .builtin .append, args := #[s, x], argTypes := #[t, t] }) {base : Nat} {v : Value} {n : Nat} {xs : List Value} (hs : a.eval s = v) (hown : w.ownsRow base e size v n xs)
    (A : Option Addr) (m c : Nat) (news : List Value) (hx : a.eval x = .slice A m c) (hl : news.length = m * size) (hnews : Row w 0 A news) (h1 : ∀ u ∈ news, u.oneCell' = true)
    (hbytes : (n + m) * bytes ≤ 140737488355328) (h63 : n + m ≤ maxLen) (hbase : base ≤ w.heap.size)
    (h : ∀ B cap w', w'.ownsRow base e size (.slice B (n + m) cap) (n + m) (xs ++ news) → w.grownBy w' v.ownBlock → K (a.put o.dst (.slice B (n + m) cap)) w') :
    if Region.wanted o (yielded ops a.tmps) = true then Oper.wp P o a w K Q else E := by
  by_cases hm : 0 < m
  · obtain ⟨i, z, hu, hi, hz, hsz, hby, hzs, hpos⟩ := hE.ex
    obtain ⟨ad, rfl, _, hc⟩ := hnews (by rw [hl]; exact Nat.mul_pos hm (by omega))
    exact step_app hE hgd s x ho hs hown ad m c news hx hl (fun j u hj => hc j u hj) h1 hbytes h63 hbase hm w.heap.size rfl (fun g cap w' ho' hg' _ _ => h _ cap w' ho' hg')
  · obtain rfl : m = 0 := by omega
    have hn : news = [] := List.eq_nil_of_length_eq_zero (by simpa using hl)
    subst hn
    obtain ⟨i, z, hu, hi, hz, hsz, hby, hzs, hpos⟩ := hE.ex
    obtain ⟨B, cv, rfl, hcv⟩ := own_slice hown
    have hw : Region.wanted o (yielded ops a.tmps) = true := by simp [Region.wanted, hgd]
    rw [if_pos hw]
    unfold Oper.wp execOp
    simp only [ho, resolve, invoke, builtin, Sem.run_bind, Sem.run_pure, Result.andThen_ok, List.map_toArray, List.map_cons, List.map_nil, hs, hx, run_app_none w hu hi B A n cv c (own_lec hown)]
    have := h B cv w (by rw [Nat.add_zero, List.append_nil]; exact hown) ⟨rfl, rfl, rfl, Nat.le_refl _, fun _ _ _ => rfl⟩
    rwa [Nat.add_zero] at this
theorem own_own_ne {w : World} {b b' e e' s s' n n' : Nat} {v v' : Value} {xs xs' : List Value} (h : w.ownsRow b e s v n xs) (h' : w.ownsRow b' e' s' v' n' xs') (he : e ≠ e') : v.ownBlock = none ∨ v.ownBlock ≠ v'.ownBlock := by
  rcases h.2 with ⟨rfl, _⟩ | ⟨g, cap, cur, rfl, _, hg, _⟩
  · exact .inl rfl
  · exact .inr (own_blkne h' (show Blk w g e cur from hg) he)
theorem info_ren : (Try.prog.info? 52).map (fun i => (i.zero, i.size, i.bytes)) = some (some (.agg #[.int .i64 0, .slice none 0 0, .bool false]), 3, 40) := by kernel_rfl
theorem E_ren : ElemT Try.prog 41 52 3 40 := .mk' Try.underlying41 info_ren rfl (by decide)
theorem evc_one (xs : List EV) (h : ∀ x ∈ xs, x.v.oneCell' = true) : ∀ u ∈ xs.flatMap evc, u.oneCell' = true := fun u hu => by
  obtain ⟨x, hx, hp⟩ := List.mem_flatMap.1 hu
  simp [evc] at hp
  rcases hp with rfl | rfl | rfl
  · rfl
  · exact h x hx
  · rfl
theorem pE_bad {per : Nat} {s : St} {x : Int} {ps : List Post} {e : Int} (h : chkE per s.opn s.es.length x ps = e) (he : e ≠ 0) : pE per s x ps = e ∧ pN per s x ps = 0 ∧ pS per s x ps = s := by
  have h1 : pE per s x ps = e := by unfold pE; rw [if_neg (by rw [h]; exact he)]; exact h
  refine ⟨h1, ?_, ?_⟩
  · unfold pN; rw [if_neg (by rw [h1]; exact he)]
  · unfold pS; rw [if_neg (by rw [h1]; exact he)]
theorem pE_over {per : Nat} {s : St} {x : Int} {ps : List Post} (h : chkE per s.opn s.es.length x ps = 0) (hf : ¬ fitAll per s.es x.toNat ps) : pE per s x ps = 3 ∧ pN per s x ps = 0 ∧ pS per s x ps = s := by
  have h1 : pE per s x ps = 3 := by unfold pE; rw [if_pos h, if_neg hf]
  refine ⟨h1, ?_, ?_⟩
  · unfold pN; rw [if_neg (by rw [h1]; decide)]
  · unfold pS; rw [if_neg (by rw [h1]; decide)]
theorem pE_yes {per : Nat} {s : St} {x : Int} {ps : List Post} (h : chkE per s.opn s.es.length x ps = 0) (hf : fitAll per s.es x.toNat ps) : pE per s x ps = 0 ∧ pN per s x ps = (s.es.length : Int) ∧ pS per s x ps = ⟨s.opn, s.es ++ [⟨x.toNat, ps, false⟩]⟩ := by
  have h1 : pE per s x ps = 0 := by unfold pE; rw [if_pos h, if_pos hf]
  refine ⟨h1, ?_, ?_⟩
  · unfold pN; rw [if_pos h1]
  · unfold pS; rw [if_pos h1]
theorem row_sum {es : List Ent} {per t : Nat} {a c : Int} (ht : t < per) : ((rowL es per a c).take (t + 1)).sum = sumB es a c 0 (t : Int) := by
  rw [sumB_to]
  exact balL_sum ht
def fitP (per : Nat) (es : List Ent) (q : Nat) (p : Post) : Prop := ∀ t : Nat, q ≤ t → t < per → I64 (sumB es p.acc p.ct 0 (t : Int)) ∧ I64 (sumB es p.acc p.ct (q : Int) (q : Int))
theorem fitAll_iff {per : Nat} {es : List Ent} {q : Nat} {ps : List Post} (hq : q < per) (hI : ∀ p ∈ ps, Post.I p) : fitAll per es q ps ↔ ∀ p ∈ ps, fitP per (es ++ [⟨q, ps, false⟩]) q p := by
  unfold fitAll fitP okRow
  constructor
  · intro h p hp t ht ht2
    have := h p.acc p.ct (hI p hp).1 (hI p hp).2.1 (pam_pos hp)
    rw [← row_post (t := false) hq] at this
    obtain ⟨h1, h2⟩ := this
    rw [rowL_get hq, ← sumB_at] at h1
    have h2 := h2 t ht ht2
    rw [row_sum ht2] at h2
    exact ⟨h2, h1⟩
  · intro h a c ha hc hne
    obtain ⟨p, hp, rfl, rfl⟩ := pam_some hne
    rw [← row_post (t := false) hq]
    have h := h p hp
    refine ⟨?_, fun t ht ht2 => ?_⟩
    · rw [rowL_get hq, ← sumB_at]
      exact (h q (Nat.le_refl _) hq).2
    · rw [row_sum ht2]
      exact (h t ht ht2).1
set_option maxHeartbeats 4000000 in
set_option maxRecDepth 100000 in
theorem reven_any (A : Option Addr) (ps : List Post) (c : Nat) (w : World) (hr : Row w 0 A (cells ps)) (hl : ps.length ≤ 1000) (hI : ∀ p ∈ ps, Post.I p) (b : Bool) (hb : b = true ↔ evenP ps) :
    Calls Try.prog 29 #[.slice A ps.length c] w fun e w' => e = .returned (.bool b) ∧ Below w.heap.size w w' := by
  have HROW := Lib.hid hr
  have HI := Lib.hid hI
  have HBE := Lib.hid hb
  obtain ⟨n, hn⟩ : ∃ n, ps.length = n := ⟨_, rfl⟩
  rw [hn] at hl ⊢
  have HN := Lib.hid hn
  clear hr hI hb hn
  go_enter Try.func29, Try.ntmps29
  go_wp2_with fail
  go_loopw [3] (fun v wr => ∃ i : Nat, v = .int .i64 (i : Int) ∧ i ≤ n ∧ Below w.heap.size w wr ∧ ∀ p ∈ ps.take i, (amts p.ct ps).sum = 0) (fun v _ => n - (intOf v).toNat)
  case atStart => exact ⟨0, rfl, by omega, Below.refl _ _, by simp⟩
  case round =>
    obtain ⟨i, rfl, hi, hbe, hall⟩ := hrel
    have HB := Lib.hid hbe
    have HALL := Lib.hid hall
    have i0 : (0 : Int) ≤ (i : Int) := Int.natCast_nonneg _
    clear hbe hall
    by_cases hlt : i < n
    · have hil : i < ps.length := by rw [HN.out]; exact hlt
      have HTA := Lib.hid (take_end hil)
      have HMEM := Lib.hid (List.getElem_mem hil)
      obtain ⟨pi, hpi⟩ : ∃ p, p = ps[i] := ⟨_, rfl⟩
      have HPI := Lib.hid hpi
      rw [← hpi] at HTA HMEM
      have i1 : (i : Int) < (n : Int) := by omega
      have HZ := Lib.hid (AccW.zero wr wr 10 (Below.refl _ _))
      clear hpi
      go_wp2_with fail
      generalize wr.alloc (.cells #[.int .i64 0, .slice none 0 0] 68) = wz at *
      obtain ⟨Q, hQ⟩ : ∃ Q, wr.heap.size = Q := ⟨_, rfl⟩
      rw [hQ] at HZ ⊢
      have HQ := Lib.hid (show w.heap.size ≤ Q by rw [← hQ]; exact HB.out.size)
      clear hQ
      go_loopw [5] (fun v wx => ∃ (k : Nat) (X : XV), v = .int .i64 (k : Int) ∧ k ≤ n ∧ AccW wr Q X (amts pi.ct (ps.take k)).sum 10 wx ∧ big (k : Int) (amts pi.ct (ps.take k)).sum) (fun v _ => n - (intOf v).toNat)
      case atStart => exact ⟨0, _, rfl, by omega, HZ.out, by show big ((0 : Nat) : Int) 0; constructor <;> decide⟩
      case round =>
        clear HZ
        obtain ⟨k, X, rfl, hk, hA, hbig⟩ := hrel
        have HA := Lib.hid hA
        have HBIG := Lib.hid hbig
        have HRW := Lib.hid (HROW.out.below (HB.out.trans (hA.be.mono HB.out.size)))
        have k0 : (0 : Int) ≤ (k : Int) := Int.natCast_nonneg _
        obtain ⟨sx, Xe, nx, cx⟩ := X
        have a1 : wr.cell? ⟨Q, 0, none⟩ = some (.int .i64 sx) := hA.bx.cell 0
        have a2 : wr.cell? ⟨Q, 1, none⟩ = some (.slice Xe nx cx) := hA.bx.cell 1
        have a3 := hA.bx.frozen 0
        have a4 := hA.bx.frozen 1
        have HSG := Lib.hid (ex_sgn hA.ex)
        clear hA hbig
        by_cases hkm : k < n
        · have hkl : k < ps.length := by rw [HN.out]; exact hkm
          obtain ⟨ad, hAd, _, _, c1, _⟩ := Net.Row.post HRW.out hil
          obtain ⟨ad', hAd', _, _, d1, d2⟩ := Net.Row.post HRW.out hkl
          cases hAd
          cases hAd'
          rw [← HPI.out] at c1
          have hta := take_end hkl
          have hpm : ps[k] ∈ ps := List.getElem_mem _
          obtain ⟨p, hp⟩ : ∃ p, p = ps[k] := ⟨_, rfl⟩
          rw [← hp] at d1 d2 hta hpm
          have HPX := Lib.hid (HI.out p hpm).2.2
          have hps := amts_snoc pi.ct (ps.take k) p
          rw [← hta] at hps
          have HPS := Lib.hid hps
          have k1 : (k : Int) < (n : Int) := by omega
          obtain ⟨pa, pc, px⟩ := p
          obtain ⟨qa, qc, qx⟩ := pi
          dsimp only at c1 d1 d2 HPS HPX HA HBIG
          clear hta hpm hps hp
          by_cases hc : pc = qc
          · have HE2 := Lib.hid (show (amts qc (ps.take (k + 1))).sum = (amts qc (ps.take k)).sum + px by rw [HPS.out, if_pos hc])
            have HBG := Lib.hid (big_mono (big_add HBIG.out HPX.out) (show (k : Int) + 1 ≤ ((k + 1 : Nat) : Int) by omega))
            obtain ⟨s, hs⟩ : ∃ s, (amts qc (ps.take k)).sum = s := ⟨_, rfl⟩
            rw [hs] at HE2 HA HBG
            have hbc : (pc == qc) = true := by simpa using hc
            have HLT := Lib.hid (Later.refl wr)
            clear hs
            go_wp2_with fail
            go_region
            all_goals
              go_wp2_with fail
              have HLT := Lib.hid ((HLT.out).drew.drew)
              go_region_with
                (first
                  | (go_at_call 33; refine (of_any (fun q => q ≠ Q) px _ ?_ HPX.out).mono ?_; exact (HA.out.later HLT.out).new; rintro e w3 ⟨v3, rfl, hx3, hb3⟩; have HLT := Lib.hid (HLT.out.trans hb3); have HX3 := Lib.hid hx3; clear hx3 hb3; have b1 := HLT.out.cell a1; have b2 := HLT.out.cell a2; have b3 := HLT.out.cell d2)
                  | (go_at_call 35; refine (plus_any (fun q => q ≠ Q) _ _ s px 10 _ ?_ ?_ ?_ (by omega)).mono ?_; exact (HA.out.later HLT.out).new; exact (HA.out.later HLT.out).ex; exact HX3.out.more (by omega); rintro e w6 ⟨v6, rfl, hx6, hb6⟩; obtain ⟨⟨s6, E6, l6, c6⟩, rfl⟩ := hx6.xv; have HLT := Lib.hid (HLT.out.trans hb6); have HX6 := Lib.hid (hx6.fewer (k' := 10) (big_lt HBG.out (by omega))); clear hx6 hb6; have HA6 := Lib.hid (HA.out.later HLT.out); have d1 : w6.cell? ⟨Q, 0, none⟩ = some (.int .i64 sx) := HA6.out.bx.cell 0; have d2 : w6.cell? ⟨Q, 1, none⟩ = some (.slice Xe nx cx) := HA6.out.bx.cell 1; have d3 := HA6.out.bx.frozen 0; have d4 := HA6.out.bx.frozen 1; try dsimp only [XV.val]))
              all_goals
                have HA7 := Lib.hid (HA6.out.set ⟨s6, E6, l6, c6⟩ HX6.out)
                go_wp2_with fail
                go_roundw
                case rel => exact ⟨k + 1, ⟨s6, E6, l6, c6⟩, by go_num, by omega, by rw [HE2.out]; exact HA7.out, by rw [HE2.out]; exact HBG.out⟩
                case measure => simp only [intOf]; omega
          · have HE2 := Lib.hid (show (amts qc (ps.take (k + 1))).sum = (amts qc (ps.take k)).sum by rw [HPS.out, if_neg hc]; omega)
            have hbc : (pc == qc) = false := by simpa using hc
            go_wp2_with fail
            go_region
            all_goals
              go_wp2_with fail
              go_roundw
              case rel => exact ⟨k + 1, ⟨sx, Xe, nx, cx⟩, by go_num, by omega, by rw [HE2.out]; exact HA.out.drew, by rw [HE2.out]; exact big_mono HBIG.out (by omega)⟩
              case measure => simp only [intOf]; omega
        · obtain rfl : k = n := by omega
          rw [List.take_of_length_le (show ps.length ≤ k by rw [HN.out]; exact Nat.le_refl _)] at HA HBIG HSG
          have HSG2 := Lib.hid (show sx = EM.sgn (amts pi.ct ps).sum from HSG.out)
          by_cases h0 : (amts pi.ct ps).sum = 0
          · obtain rfl : sx = 0 := by rw [HSG2.out]; exact (sgn_zero _).2 h0
            have H0 := Lib.hid h0
            clear h0
            go_wp2_with fail
            go_roundw
            case rel => exact ⟨i + 1, by go_num, by omega, HB.out.trans (HA.out.be.mono HB.out.size), fun p hp => by
              rw [HTA.out] at hp
              rcases List.mem_append.1 hp with h | h
              · exact HALL.out p h
              · rw [List.mem_singleton.1 h]; exact H0.out⟩
            case measure => simp only [intOf]; omega
          · have hs0 : (sx == 0) = false := by
              have : sx ≠ 0 := by rw [HSG2.out]; exact fun e => h0 ((sgn_zero _).1 e)
              simpa using this
            have hs1 : ¬ sx = 0 := by simpa using hs0
            have HBF := Lib.hid (show b = false by
              cases hbb : b with
              | false => rfl
              | true => exact absurd (HBE.out.1 hbb pi HMEM.out) h0)
            clear h0
            go_wp2_with fail
            go_ret
            exact ⟨by rw [HBF.out]; rfl, HB.out.trans (HA.out.be.mono HB.out.size)⟩
    · obtain rfl : i = n := by omega
      rw [List.take_of_length_le (show ps.length ≤ i by rw [HN.out]; exact Nat.le_refl _)] at HALL
      have HBT := Lib.hid (show b = true from HBE.out.2 HALL.out)
      go_wp2_with fail
      go_ret
      exact ⟨by rw [HBT.out]; rfl, HB.out⟩
end
section
open Go.RowKit Go.Proofs.Ytmijcgcppankcaa.Cents Go.Proofs.Ytmijcgcppankcaa.MV Go.Proofs.Ytmijcgcppankcaa.Net Go.Proofs.Ytmijcgcppankcaa.CO Go.Proofs.Ytmijcgcppankcaa.Exact
open Go.Maps (Keyed)
set_option linter.unusedVariables false
set_option linter.unusedSimpArgs false

theorem own_mono {w : World} {b b' e size n : Nat} {v : Value} {xs : List Value} (h : w.ownsRow b e size v n xs) (hb : b' ≤ b) : w.ownsRow b' e size v n xs :=
  ⟨h.1, h.2.imp id fun ⟨g, cap, cur, e1, hg, r⟩ => ⟨g, cap, cur, e1, Nat.le_trans hb hg, r⟩⟩
/-- 'append' to an empty row. -/
theorem step_apps0 {P : Program} {w : World} {t e size bytes : Nat} (hE : ElemT P t e size bytes) {ops : Array Oper} {o : Oper} {a : Act} {K : Act → World → Prop} {Q : Exit → Act → World → Prop} {E : Prop} (hgd : o.guard = none) (s x : Operand)
    (ho : o.op = .call { callee := .builtin .append, args := #[s, x], argTypes := #[t, t] }) {base : Nat} {v : Value} (hs : a.eval s = v) (hown : w.ownsRow base e size v 0 [])
    (A : Option Addr) (m c : Nat) (news : List Value) (hx : a.eval x = .slice A m c) (hl : news.length = m * size) (hnews : Row w 0 A news) (h1 : ∀ u ∈ news, u.oneCell' = true)
    (hbytes : m * bytes ≤ 140737488355328) (h63 : m ≤ maxLen) (hbase : base ≤ w.heap.size)
    (h : ∀ B cap w', w'.ownsRow base e size (.slice B m cap) m news → w.grownBy w' v.ownBlock → K (a.put o.dst (.slice B m cap)) w') :
    if Region.wanted o (yielded ops a.tmps) = true then Oper.wp P o a w K Q else E := by
  refine step_apps hE hgd s x ho hs hown A m c news hx hl hnews h1 (by rw [Nat.zero_add]; exact hbytes) (by rw [Nat.zero_add]; exact h63) hbase (fun B cap w' ho' hg' => ?_)
  rw [Nat.zero_add] at ho' ⊢
  exact h B cap w' ho' hg'
def RPost (b0 R per : Nat) (s : St) (x : Int) (ps : List Post) (w : World) (e : Ending) (w' : World) : Prop :=
  e = .returned (.tuple #[.int .i64 (pN per s x ps), .int .i64 (pE per s x ps)]) ∧ RfL b0 R per (pS per s x ps) w' ∧ Kq b0 w w'
theorem rpost_bad {b0 R per : Nat} {s : St} {w : World} (hL : RfL b0 R per s w) (x : Int) (ps : List Post) (e : Int) (w' : World) (hb : Below w.heap.size w w') (hp : pE per s x ps = e ∧ pN per s x ps = 0 ∧ pS per s x ps = s) : RPost b0 R per s x ps w (.returned (.tuple #[.int .i64 0, .int .i64 e])) w' := by
  unfold RPost
  rw [hp.1, hp.2.1, hp.2.2]
  exact ⟨rfl, hL.later hb, Kq.of hL.size hb⟩
theorem rledw_put {b0 R M per : Nat} {opn : Int} {xs ys : List EV} {E E' : Option Addr} {c c' : Nat} {w : World} (hR : Blk w R 43 #[.int .i64 (per : Int), .int .i64 opn, .slice E xs.length c]) (h : RLedW b0 M per opn ys E' c' w) (hb : b0 ≤ R) :
    RLedW b0 R per opn ys E' c' (w.setCell ⟨R, 2, none⟩ (.slice E' ys.length c')) := by
  have hf := (Fr.refl (fun q => q = R) w).setCell (p := ⟨R, 2, none⟩) (fun _ => rfl) (.slice E' ys.length c')
  refine ⟨by simpa using hR.set_ 2 (.slice E' ys.length c'), own_fr h.own hf (fun k hk e => own_blkne h.own hR (by decide) (by rw [hk, e])), fun z hz => own_fr (h.pst z hz) hf (fun k hk e => own_blkne (h.pst z hz) hR (by decide) (by rw [hk, e])), hb⟩
theorem kq_put {b0 R : Nat} {cs : Array Value} {w w' : World} (hb0 : b0 ≤ w.heap.size) (hR : Blk w R 43 cs) (hbR : b0 ≤ R) (hb : Below w.heap.size w w') (i : Nat) (u : Value) : Kq b0 w (w'.setCell ⟨R, i, none⟩ u) := by
  have hf := (Fr.refl (fun q => q = R) w').setCell (p := ⟨R, i, none⟩) (fun _ => rfl) u
  refine (Kq.of hb0 hb).trans ⟨hf.os, hf.tape, hf.output, hf.size, fun j hj => hf.block j (by have := hb.size; omega) (by omega), fun j hj hn _ => hf.block j hj (fun e => hn cs (e ▸ (hR.below hb hR.lt)))⟩
def badA (per m : Nat) (x : Int) (ps : List Post) : Prop := ¬ hasP per x ∨ m = 0 ∨ 32 < m ∨ noAny ps = true
theorem chk_1 {per n : Nat} {o x : Int} {ps : List Post} (h : badA per ps.length x ps) : chkE per o n x ps = 1 := by
  unfold chkE; exact if_pos h
theorem chk_7 {per n : Nat} {o x : Int} {ps : List Post} (h : ¬ badA per ps.length x ps) (h7 : x < o) : chkE per o n x ps = 7 := by
  unfold chkE; exact (if_neg h).trans (if_pos h7)
theorem chk_10 {per n : Nat} {o x : Int} {ps : List Post} (h : ¬ badA per ps.length x ps) (h7 : ¬ x < o) (h10 : ¬ evenP ps) : chkE per o n x ps = 10 := by
  unfold chkE; exact (if_neg h).trans ((if_neg h7).trans (if_pos h10))
theorem chk_4 {per n : Nat} {o x : Int} {ps : List Post} (h : ¬ badA per ps.length x ps) (h7 : ¬ x < o) (h10 : evenP ps) (h4 : n = 5000) : chkE per o n x ps = 4 := by
  unfold chkE; exact (if_neg h).trans ((if_neg h7).trans ((if_neg (fun c => c h10)).trans (if_pos h4)))
theorem chk_0 {per n : Nat} {o x : Int} {ps : List Post} (h : ¬ badA per ps.length x ps) (h7 : ¬ x < o) (h10 : evenP ps) (h4 : ¬ n = 5000) : chkE per o n x ps = 0 := by
  unfold chkE; exact (if_neg h).trans ((if_neg h7).trans ((if_neg (fun c => c h10)).trans (if_neg h4)))
set_option maxHeartbeats 8000000 in
set_option maxRecDepth 100000 in
theorem rpost_led {b0 R per : Nat} {s : St} {w : World} (hL : RfL b0 R per s w) (hG : LedP per s) (x : Int) (A : Option Addr) (ps : List Post) (c : Nat) (hr : Row w 0 A (cells ps)) (hl : ps.length ≤ 1000) (hI : ∀ p ∈ ps, Post.I p) :
    Calls Try.prog 12 #[lv R, .int .i64 x, .slice A ps.length c] w (RPost b0 R per s x ps w) := by
  have HBAD := Lib.hid (rpost_bad hL x ps)
  have hb0 := hL.size
  obtain ⟨_, xs, E, ce, hW, he⟩ := hL
  have hxl : xs.length = s.es.length := by rw [← he, ents_len]
  have c0 : w.cell? ⟨R, 0, none⟩ = some (.int .i64 (per : Int)) := hW.led.cell 0
  have c1 : w.cell? ⟨R, 1, none⟩ = some (.int .i64 s.opn) := hW.led.cell 1
  have c2 : w.cell? ⟨R, 2, none⟩ = some (.slice E xs.length ce) := hW.led.cell 2
  have hlen := hG.len
  have hp2 := hG.per2
  have HW := Lib.hid hW
  have HE := Lib.hid he
  have HROW := Lib.hid hr
  have HI := Lib.hid hI
  have HOK := Lib.hid (hG.hok he)
  have HC1 := Lib.hid (fun (h : badA per ps.length x ps) => pE_bad (per := per) (s := s) (chk_1 h) (by decide))
  have HC7 := Lib.hid (fun (h : ¬ badA per ps.length x ps) (h7 : x < s.opn) => pE_bad (per := per) (s := s) (chk_7 h h7) (by decide))
  have HC10 := Lib.hid (fun (h : ¬ badA per ps.length x ps) (h7 : s.opn ≤ x) (h10 : ¬ evenP ps) => pE_bad (per := per) (s := s) (chk_10 h (by omega) h10) (by decide))
  have HC4 := Lib.hid (fun (h : ¬ badA per ps.length x ps) (h7 : s.opn ≤ x) (h10 : evenP ps) (h4 : s.es.length = 5000) => pE_bad (per := per) (s := s) (chk_4 h (by omega) h10 h4) (by decide))
  have HOVER := Lib.hid (fun (h : ¬ badA per ps.length x ps) (h7 : s.opn ≤ x) (h10 : evenP ps) (h4 : ¬ s.es.length = 5000) (hf : ¬ fitAll per s.es x.toNat ps) => pE_over (per := per) (s := s) (chk_0 h (by omega) h10 h4) hf)
  have HYES := Lib.hid (fun (h : ¬ badA per ps.length x ps) (h7 : s.opn ≤ x) (h10 : evenP ps) (h4 : ¬ s.es.length = 5000) (hf : fitAll per s.es x.toNat ps) => pE_yes (per := per) (s := s) (chk_0 h (by omega) h10 h4) hf)
  obtain ⟨m, hm⟩ : ∃ m, ps.length = m := ⟨_, rfl⟩
  have HM := Lib.hid hm
  rw [hm] at hl HC1 HC7 HC10 HC4 HOVER HYES ⊢
  rw [← hxl] at hlen HC4 HOVER HYES
  obtain ⟨n, hn⟩ : ∃ n, xs.length = n := ⟨_, rfl⟩
  have HN := Lib.hid hn
  rw [hn] at c2 hlen HC4 HOVER HYES
  obtain ⟨o, ho⟩ : ∃ o, s.opn = o := ⟨_, rfl⟩
  have HO := Lib.hid ho
  rw [ho] at c1 HC7 HC10 HC4 HOVER HYES
  clear hW hG he hxl hr hI hm hn ho
  go_enter Try.func12, Try.ntmps12
  by_cases q1 : x < 0
  · have HB := Lib.hid (HC1.out (.inl (by unfold hasP; omega)))
    go_wp2_with fail
    go_ret2
    exact HBAD.out 1 _ (Below.refl _ _) HB.out
  by_cases q2 : (per : Int) ≤ x
  · have HB := Lib.hid (HC1.out (.inl (by unfold hasP; omega)))
    go_wp2_with fail
    go_ret2
    exact HBAD.out 1 _ (Below.refl _ _) HB.out
  have q3 : x < (per : Int) := by omega
  by_cases q4 : m = 0
  · have HB := Lib.hid (HC1.out (.inr (.inl q4)))
    have q5 : (m : Int) < 1 := by omega
    go_wp2_with fail
    go_ret2
    exact HBAD.out 1 _ (Below.refl _ _) HB.out
  have q5 : ¬ ((m : Int) < 1) := by omega
  by_cases q6 : 32 < m
  · have HB := Lib.hid (HC1.out (.inr (.inr (.inl q6))))
    have q7 : (32 : Int) < (m : Int) := by omega
    go_wp2_with fail
    go_ret2
    exact HBAD.out 1 _ (Below.refl _ _) HB.out
  have q7 : ¬ ((32 : Int) < (m : Int)) := by omega
  go_wp2_with fail
  go_loopw [8] (fun v wr => ∃ i : Nat, v = .int .i64 (i : Int) ∧ i ≤ m ∧ noAny (ps.take i) = false ∧ w = wr) (fun v _ => m - (intOf v).toNat)
  case atStart => exact ⟨0, rfl, by omega, rfl, rfl⟩
  case round =>
    obtain ⟨i, rfl, hi, hno, rfl⟩ := hrel
    have HNO := Lib.hid hno
    have i0 : (0 : Int) ≤ (i : Int) := Int.natCast_nonneg _
    clear hno
    by_cases hlt : i < m
    · have hil : i < ps.length := by rw [HM.out]; exact hlt
      obtain ⟨ad, rfl, _, d0, d1, _⟩ := Net.Row.post HROW.out hil
      have HTA := Lib.hid (noAny_take hil)
      have HMEM := Lib.hid (List.getElem_mem hil)
      obtain ⟨p, hp⟩ : ∃ p, p = ps[i] := ⟨_, rfl⟩
      rw [← hp] at d0 d1 HTA HMEM
      have i1 : (i : Int) < (m : Int) := by omega
      obtain ⟨pa, pc, px⟩ := p
      dsimp only at d0 d1
      have HB := Lib.hid (fun hnm : ¬ mayP pa pc => HC1.out (.inr (.inr (.inr (by unfold noAny; rw [List.any_eq_true]; exact ⟨_, HMEM.out, by simpa using hnm⟩)))))
      clear hp
      by_cases r1 : pa < 0
      · have HB := Lib.hid (HB.out (by unfold mayP; omega))
        go_wp2_with fail
        go_ret2
        exact HBAD.out 1 _ (Below.refl _ _) HB.out
      by_cases r2 : 3 < pa
      · have HB := Lib.hid (HB.out (by unfold mayP; omega))
        go_wp2_with fail
        go_ret2
        exact HBAD.out 1 _ (Below.refl _ _) HB.out
      by_cases r3 : pc < 0
      · have HB := Lib.hid (HB.out (by unfold mayP; omega))
        go_wp2_with fail
        go_ret2
        exact HBAD.out 1 _ (Below.refl _ _) HB.out
      by_cases r4 : 39 < pc
      · have HB := Lib.hid (HB.out (by unfold mayP; omega))
        go_wp2_with fail
        go_ret2
        exact HBAD.out 1 _ (Below.refl _ _) HB.out
      have HNX := Lib.hid (show noAny (ps.take (i + 1)) = false by
        rw [HTA.out, HNO.out, Bool.false_or, decide_eq_false_iff_not]
        exact fun h => h (show mayP pa pc from ⟨by omega, by omega, by omega, by omega⟩))
      go_wp2_with fail
      go_roundw
      case rel => exact ⟨i + 1, by go_num, by omega, HNX.out, trivial⟩
      case measure => simp only [intOf]; omega
    · obtain rfl : i = m := by omega
      rw [List.take_of_length_le (show ps.length ≤ i by rw [HM.out]; exact Nat.le_refl _)] at HNO
      have HNB := Lib.hid (show ¬ badA per i x ps from fun h => by
        unfold badA at h
        rw [HNO.out] at h
        unfold hasP at h
        rcases h with h | h | h | h
        · omega
        · omega
        · omega
        · cases h)
      by_cases q8 : x < o
      · have HB := Lib.hid (HC7.out HNB.out q8)
        go_wp2_with fail
        go_ret2
        exact HBAD.out 7 _ (Below.refl _ _) HB.out
      have HQ8 := Lib.hid (show o ≤ x by omega)
      by_cases hev : evenP ps
      rotate_left
      · have HB := Lib.hid (HC10.out HNB.out HQ8.out hev)
        have HEV := Lib.hid (reven_any A ps c w HROW.out (by rw [HM.out]; exact hl) HI.out false (by simp [hev]))
        rw [HM.out] at HEV
        clear hev
        go_wp2_with fail
        refine HEV.out.mono ?_
        rintro e w1 ⟨rfl, hb1⟩
        have HB1 := Lib.hid hb1
        clear hb1
        go_wp2_with fail
        go_ret2
        exact HBAD.out 10 _ HB1.out HB.out
      have HEVP := Lib.hid hev
      have HEV := Lib.hid (reven_any A ps c w HROW.out (by rw [HM.out]; exact hl) HI.out true (by simp [hev]))
      rw [HM.out] at HEV
      clear hev
      by_cases q9 : n = 5000
      · have HB := Lib.hid (HC4.out HNB.out HQ8.out HEVP.out q9)
        have q10 : (5000 : Int) ≤ (n : Int) := by omega
        go_wp2_with fail
        refine HEV.out.mono ?_
        rintro e w1 ⟨rfl, hb1⟩
        have HB1 := Lib.hid hb1
        have e2 := cell_below' hb1 c2
        clear hb1
        go_wp2_with fail
        go_ret2
        exact HBAD.out 4 _ HB1.out HB.out
      have q10 : ¬ ((5000 : Int) ≤ (n : Int)) := by omega
      obtain ⟨q, rfl⟩ : ∃ q : Nat, x = (q : Int) := ⟨x.toNat, by omega⟩
      have HOVER2 := Lib.hid (HOVER.out HNB.out HQ8.out HEVP.out q9)
      have HYES2 := Lib.hid (HYES.out HNB.out HQ8.out HEVP.out q9)
      rw [Int.toNat_natCast] at HOVER2 HYES2
      clear HOVER HYES
      have HFIT := Lib.hid (fitAll_iff (es := s.es) (show q < per by omega) HI.out)
      go_wp2_with fail
      refine HEV.out.mono ?_
      rintro e w1 ⟨rfl, hb1⟩
      have HB1 := Lib.hid hb1
      have hsz : w.heap.size ≤ w1.heap.size := hb1.size
      have hW1 := HW.out.later hb1
      have HW1 := Lib.hid hW1
      have e0 := cell_below' hb1 c0
      have e1 := cell_below' hb1 c1
      have e2 := cell_below' hb1 c2
      have HRX := Lib.hid (fun W (hb : Below w1.heap.size w1 W) => (((Row.of_own hW1.own (by decide)).weak (Nat.zero_le _)).below hb : Row W 0 E (xs.flatMap evc)))
      have HRP := Lib.hid (fun W (hb : Below w1.heap.size w1 W) => ((HROW.out.below hb1).below hb : Row W 0 A (cells ps)))
      have HONX := Lib.hid (evc_one xs (fun x hx => by obtain ⟨P, cp, hv, _⟩ := own_slice (HW.out.pst x hx); rw [hv]; rfl))
      have HFL := Lib.hid (show (xs.flatMap evc).length = n * 3 by rw [flat_len evc_len, HN.out])
      have HCL := Lib.hid (show (cells ps).length = i * 3 by rw [cells_len, HM.out])
      have HONP := Lib.hid (cells_one' ps)
      clear hb1 hW1 c0 c1 c2 HC1 HC7 HC10 HC4
      have HO1 := Lib.hid (own_empty3 w1.drew 52 3 w1.heap.size (Nat.le_refl _))
      have HV1 := Lib.hid ((Below.drew (Below.refl w1.heap.size w1)).alloc (Nat.le_refl _) (.cells #[] 52))
      have HO2 := Lib.hid (HO1.out.alloc (.cells #[] 48))
      have HV2 := Lib.hid (HV1.out.alloc HV1.out.size (.cells #[] 48))
      have HP2 := Lib.hid (show ((w1.drew.alloc (.cells #[] 52)).alloc (.cells #[] 48)).ownsRow w1.heap.size 48 3 (.slice (some ⟨w1.heap.size + 1, 0, none⟩) 0 0) 0 [] from by
        have := own_empty3 (w1.drew.alloc (.cells #[] 52)) 48 3 w1.heap.size HV1.out.size
        rwa [show (w1.drew.alloc (.cells #[] 52)).heap.size = w1.heap.size + 1 by simp] at this)
      have HP3 := Lib.hid ((own_empty3 w1.drew 48 3 w1.heap.size (Nat.le_refl _)).alloc (.cells #[] 52))
      have HV3 := Lib.hid (((Below.drew (Below.refl w1.heap.size w1)).alloc (Nat.le_refl _) (.cells #[] 48)).alloc (by simp) (.cells #[] 52))
      have HO3 := Lib.hid (show ((w1.drew.alloc (.cells #[] 48)).alloc (.cells #[] 52)).ownsRow w1.heap.size 52 3 (.slice (some ⟨w1.heap.size + 1, 0, none⟩) 0 0) 0 [] from by
        have := own_empty3 (w1.drew.alloc (.cells #[] 48)) 52 3 w1.heap.size (by simp)
        rwa [show (w1.drew.alloc (.cells #[] 48)).heap.size = w1.heap.size + 1 by simp] at this)
      have y1 : n * 40 ≤ 140737488355328 := by omega
      have y2 : n ≤ maxLen := by unfold maxLen; omega
      have y3 : i * 24 ≤ 140737488355328 := by omega
      have y4 : i ≤ maxLen := by unfold maxLen; omega
      have y5 : (n + 1) * 40 ≤ 140737488355328 := by omega
      have y6 : n + 1 ≤ maxLen := by unfold maxLen; omega
      go_upto_region 14 with fail
      go_cut [9] (fun v wx => ∃ (M : Nat) (E' : Option Addr) (c' : Nat) (B2 : Option Addr) (cB : Nat), v = .pointer (some ⟨M, 0, none⟩) ∧ RLedW b0 M per s.opn (xs ++ [⟨⟨q, ps, false⟩, .slice B2 ps.length cB⟩]) E' c' wx ∧ Below w1.heap.size w1 wx)
      case first =>
        go_region_held3 (fun W => W.cell? ⟨R, 0, none⟩ = some (.int .i64 (per : Int)) ∧ W.cell? ⟨R, 1, none⟩ = some (.int .i64 o) ∧ W.cell? ⟨R, 2, none⟩ = some (.slice E n ce))
          (first | (go_split_ands; exact ⟨b1, b2, b3⟩) | (go_keep; done))
          ((first
            | (refine step_apps0 E_ren rfl (.tmp 95) (.tmp 99) rfl rfl HO1.out E n ce (xs.flatMap evc) rfl HFL.out (HRX.out _ HV1.out) HONX.out y1 y2 HV1.out.size ?_; intro B1 cb1 w5 ho5 hg5; have HO5 := Lib.hid ho5; have HL5 := Lib.hid (HV1.out.grown hg5 HV1.out.size (fun k hk => (HO1.out.lt k hk).1)); clear ho5 hg5; have b1 := cell_below' HL5.out e0; have b2 := cell_below' HL5.out e1; have b3 := cell_below' HL5.out e2)
            | (refine step_apps0 E_ren rfl (.tmp 95) (.tmp 99) rfl rfl HO2.out E n ce (xs.flatMap evc) rfl HFL.out (HRX.out _ HV2.out) HONX.out y1 y2 HV2.out.size ?_; intro B1 cb1 w5 ho5 hg5; have HO5 := Lib.hid ho5; have HL5 := Lib.hid (HV2.out.grown hg5 HV2.out.size (fun k hk => (HO2.out.lt k hk).1)); have HP5 := Lib.hid (HP2.out.kept hg5 (own_own_ne HP2.out HO2.out (by decide))); clear ho5 hg5; have b1 := cell_below' HL5.out e0; have b2 := cell_below' HL5.out e1; have b3 := cell_below' HL5.out e2)
            | (refine step_apps0 E_ren rfl (.tmp 95) (.tmp 99) rfl rfl HO3.out E n ce (xs.flatMap evc) rfl HFL.out (HRX.out _ HV3.out) HONX.out y1 y2 HV3.out.size ?_; intro B1 cb1 w5 ho5 hg5; have HO5 := Lib.hid ho5; have HL5 := Lib.hid (HV3.out.grown hg5 HV3.out.size (fun k hk => (HO3.out.lt k hk).1)); have HP5 := Lib.hid (HP3.out.kept hg5 (own_own_ne HP3.out HO3.out (by decide))); clear ho5 hg5; have b1 := cell_below' HL5.out e0; have b2 := cell_below' HL5.out e1; have b3 := cell_below' HL5.out e2)
            | (refine step_apps0 E_post rfl (.tmp 102) (.tmp 103) rfl rfl HP5.out A i c (cells ps) rfl HCL.out (HRP.out _ HL5.out) HONP.out y3 y4 HL5.out.size ?_; intro B2 cb2 w6 ho6 hg6; have HQ6 := Lib.hid ho6; have HO6 := Lib.hid (HO5.out.kept hg6 (own_own_ne HO5.out HP5.out (by decide))); have HL6 := Lib.hid (HL5.out.grown hg6 HL5.out.size (fun k hk => (HP5.out.lt k hk).1)); clear ho6 hg6; have b1 := cell_below' HL6.out e0; have b2 := cell_below' HL6.out e1; have b3 := cell_below' HL6.out e2)
            | (have HP5 := Lib.hid (own_empty3 w5 48 3 w1.heap.size HL5.out.size); have HO5 := Lib.hid (HO5.out.alloc (.cells #[] 48)); have HL5 := Lib.hid (HL5.out.alloc HL5.out.size (.cells #[] 48)); refine step_apps0 E_post rfl (.tmp 102) (.tmp 103) rfl rfl HP5.out A i c (cells ps) rfl HCL.out (HRP.out _ HL5.out) HONP.out y3 y4 HL5.out.size ?_; intro B2 cb2 w6 ho6 hg6; have HQ6 := Lib.hid ho6; have HO6 := Lib.hid (HO5.out.kept hg6 (own_own_ne HO5.out HP5.out (by decide))); have HL6 := Lib.hid (HL5.out.grown hg6 HL5.out.size (fun k hk => (HP5.out.lt k hk).1)); clear ho6 hg6; have b1 := cell_below' HL6.out e0; have b2 := cell_below' HL6.out e1; have b3 := cell_below' HL6.out e2)
            | (have HN6 := Lib.hid (Blk.new w6 52 #[.int .i64 (q : Int), .slice B2 i cb2, .bool false]); have HO6 := Lib.hid (HO6.out.alloc (.cells #[.int .i64 (q : Int), .slice B2 i cb2, .bool false] 52)); have HQ6 := Lib.hid (HQ6.out.alloc (.cells #[.int .i64 (q : Int), .slice B2 i cb2, .bool false] 52)); have HL6 := Lib.hid (HL6.out.alloc HL6.out.size (.cells #[.int .i64 (q : Int), .slice B2 i cb2, .bool false] 52)); refine step_apps E_ren rfl (.tmp 100) (.tmp 106) rfl rfl HO6.out (some ⟨w6.heap.size, 0, none⟩) 1 1 [.int .i64 (q : Int), .slice B2 i cb2, .bool false] rfl rfl (Row.of_blk HN6.out (Nat.zero_le _) rfl) (by simp [Value.oneCell']) y5 y6 HL6.out.size ?_; intro B3 cb3 w7 ho7 hg7; have HO7 := Lib.hid ho7; have HQ7 := Lib.hid (HQ6.out.kept hg7 (own_own_ne HQ6.out HO6.out (by decide))); have HL7 := Lib.hid (HL6.out.grown hg7 HL6.out.size (fun k hk => (HO6.out.lt k hk).1)); clear ho7 hg7; have b1 := cell_below' HL7.out e0; have b2 := cell_below' HL7.out e1; have b3 := cell_below' HL7.out e2)))
        all_goals
          go_wp2_with fail
          go_meet
          case rel =>
            have hbl := HL7.out.alloc HL7.out.size (.cells #[.int .i64 (per : Int), .int .i64 o, .slice B3 (n + 1) cb3] 43)
            refine ⟨w7.heap.size, B3, cb3, B2, cb2, rfl, ⟨?_, ?_, ?_, ?_⟩, hbl⟩
            · rw [HO.out, List.length_append, HN.out]
              exact Blk.new w7 _ _
            · rw [List.length_append, HN.out, List.flatMap_append]
              have := own_mono (HO7.out.alloc (.cells #[.int .i64 (per : Int), .int .i64 o, .slice B3 (n + 1) cb3] 43)) (b' := b0) (by omega)
              rw [HM.out]
              exact this
            · intro z hz
              rcases List.mem_append.1 hz with h | h
              · exact own_below (HW1.out.pst z h) hbl
              · rw [List.mem_singleton.1 h]
                have := own_mono (HQ7.out.alloc (.cells #[.int .i64 (per : Int), .int .i64 o, .slice B3 (n + 1) cb3] 43)) (b' := b0) (by omega)
                rw [HM.out]
                exact this
            · have := HL7.out.size
              omega
      case rest =>
        obtain ⟨M, E', c', B2, cB, hv, hLM, hbw⟩ := hcut
        subst hv
        obtain ⟨wy, hwy⟩ : ∃ wy : World, wy = wc := ⟨_, rfl⟩
        rw [← hwy] at hLM hbw ⊢
        clear hwy
        have HLM := Lib.hid hLM
        have HBW := Lib.hid (HB1.out.trans (hbw.mono HB1.out.size))
        obtain ⟨ys, hys⟩ : ∃ ys, xs ++ [(⟨⟨q, ps, false⟩, .slice B2 ps.length cB⟩ : EV)] = ys := ⟨_, rfl⟩
        rw [hys] at HLM
        have HYL := Lib.hid (show ys.length = n + 1 by rw [← hys]; simp [HN.out])
        have HYE := Lib.hid (show ents ys = s.es ++ [⟨q, ps, false⟩] by rw [← hys, ← HE.out]; simp [ents])
        have HYO := Lib.hid (show ∀ x ∈ ys, x.e.q < 1000 ∧ x.e.ps.length ≤ 32 ∧ ∀ p ∈ x.e.ps, Post.I p from fun z hz => by
          rw [← hys] at hz
          rcases List.mem_append.1 hz with h | h
          · exact HOK.out z h
          · rw [List.mem_singleton.1 h]; exact ⟨by show q < 1000; omega, by show ps.length ≤ 32; rw [HM.out]; omega, HI.out⟩)
        have HSM := Lib.hid (fun (W : World) (hb : Below wy.heap.size wy W) (a c f t : Int) => rsum_is (HLM.out.later hb) (by rw [HYL.out]; omega) HYO.out (fun _ => True) (fun _ _ => trivial) a c f t)
        obtain ⟨es2, hes2⟩ : ∃ es2, s.es ++ [(⟨q, ps, false⟩ : Ent)] = es2 := ⟨_, rfl⟩
        rw [HYE.out, hes2] at HSM
        rw [hes2] at HFIT
        have f0 := cell_below' hbw e0
        have hqp : q < per := by omega
        clear e0 e1 e2 hbw hLM hys HO1 HV1 HO2 HV2 HP2 HP3 HV3 HO3 y1 y2 y3 y4 y5 y6 HRX HRP HONX HFL HCL HONP
        go_wp2_with fail
        go_loopw [10] (fun v wr => ∃ j : Nat, v = .int .i64 (j : Int) ∧ j ≤ i ∧ Below wy.heap.size wy wr ∧ ∀ p ∈ ps.take j, fitP per es2 q p) (fun v _ => i - (intOf v).toNat)
        case atStart => exact ⟨0, rfl, by omega, Below.refl _ _, by simp⟩
        case round =>
          obtain ⟨j, rfl, hj, hbe, hall⟩ := hrel
          have HBY := Lib.hid hbe
          have HALL := Lib.hid hall
          have j0 : (0 : Int) ≤ (j : Int) := Int.natCast_nonneg _
          have HRW := Lib.hid (HROW.out.below (HBW.out.trans (hbe.mono HBW.out.size)))
          have g0 := cell_below' hbe f0
          clear hbe hall
          by_cases hlt : j < i
          · have hjl : j < ps.length := by rw [HM.out]; exact hlt
            obtain ⟨ad, rfl, _, d0, d1, _⟩ := Net.Row.post HRW.out hjl
            have HTA := Lib.hid (take_end hjl)
            have HMEM := Lib.hid (List.getElem_mem hjl)
            obtain ⟨p, hp⟩ : ∃ p, p = ps[j] := ⟨_, rfl⟩
            rw [← hp] at d0 d1 HTA HMEM
            have j1 : (j : Int) < (i : Int) := by omega
            obtain ⟨pa, pc, px⟩ := p
            dsimp only at d0 d1
            clear hp
            go_wp2_with fail
            go_loopw [11] (fun v wx => ∃ t : Nat, v = .int .i64 (t : Int) ∧ q ≤ t ∧ t ≤ per ∧ Below wr.heap.size wr wx ∧ ∀ u : Nat, q ≤ u → u < t → I64 (sumB es2 pa pc 0 (u : Int)) ∧ I64 (sumB es2 pa pc (q : Int) (q : Int))) (fun v _ => per - (intOf v).toNat)
            case atStart => exact ⟨q, rfl, Nat.le_refl _, by omega, Below.refl _ _, fun u h1 h2 => absurd h1 (by omega)⟩
            case round =>
              obtain ⟨t, rfl, hqt, htp, hbe, hall⟩ := hrel
              have HBX := Lib.hid (HBY.out.trans (hbe.mono HBY.out.size))
              have HBE2 := Lib.hid hbe
              have HALL2 := Lib.hid hall
              have t0 : (0 : Int) ≤ (t : Int) := Int.natCast_nonneg _
              have d0 := cell_below' hbe d0
              have d1 := cell_below' hbe d1
              have g0 := cell_below' hbe g0
              clear hbe hall
              by_cases hlt2 : t < per
              · have t1 : (t : Int) < (per : Int) := by omega
                obtain ⟨u1, x1, HF1, hc1⟩ : ∃ u1 x1, Hid (fitN (sumB es2 pa pc 0 (t : Int)) = u1 ∧ fitE (sumB es2 pa pc 0 (t : Int)) = x1) ∧ (x1 = 0 ∧ I64 (sumB es2 pa pc 0 (t : Int)) ∨ x1 = 3 ∧ ¬ I64 (sumB es2 pa pc 0 (t : Int))) := by
                  refine ⟨_, _, Lib.hid ⟨rfl, rfl⟩, ?_⟩
                  unfold fitE
                  by_cases h : I64 (sumB es2 pa pc 0 (t : Int))
                  · rw [if_pos h]; exact .inl ⟨rfl, h⟩
                  · rw [if_neg h]; exact .inr ⟨rfl, h⟩
                obtain ⟨u2, x2, HF2, hc2⟩ : ∃ u2 x2, Hid (fitN (sumB es2 pa pc (q : Int) (q : Int)) = u2 ∧ fitE (sumB es2 pa pc (q : Int) (q : Int)) = x2) ∧ (x2 = 0 ∧ I64 (sumB es2 pa pc (q : Int) (q : Int)) ∨ x2 = 3 ∧ ¬ I64 (sumB es2 pa pc (q : Int) (q : Int))) := by
                  refine ⟨_, _, Lib.hid ⟨rfl, rfl⟩, ?_⟩
                  unfold fitE
                  by_cases h : I64 (sumB es2 pa pc (q : Int) (q : Int))
                  · rw [if_pos h]; exact .inl ⟨rfl, h⟩
                  · rw [if_neg h]; exact .inr ⟨rfl, h⟩
                have HC1 := Lib.hid hc1
                have HC2 := Lib.hid hc2
                clear hc1 hc2
                go_wp2_with fail
                have HLW := Lib.hid ((Later.refl wr).drew)
                go_region_held3 (fun W => W.cell? (ad.add (j * 3)) = some (.int .i64 pa) ∧ W.cell? ⟨(ad.add (j * 3)).block, (ad.add (j * 3)).off + 1, none⟩ = some (.int .i64 pc))
                  (first | (go_split_ands; exact ⟨b1, b2⟩) | (go_keep; done))
                  ((first
                    | (go_at_call 31; refine (HSM.out _ (HBX.out.trans (HLW.out.mono HBX.out.size)) pa pc 0 (t : Int)).mono ?_; rintro e w3 ⟨⟨v3, rfl, hx3, hb3⟩, _⟩; have HLW := Lib.hid (HLW.out.trans hb3); have HX3 := Lib.hid hx3; clear hx3 hb3; have b1 := HLW.out.cell d0; have b2 := HLW.out.cell d1)
                    | (go_at_call 30; refine (fit_as v3 _ w3 HX3.out _ _ HF1.out).mono ?_; rintro e w4 ⟨rfl, hb4⟩; have HLW := Lib.hid (HLW.out.trans hb4); clear hb4; have b1 := HLW.out.cell d0; have b2 := HLW.out.cell d1)))
                go_wp2_with fail
                have HLW := Lib.hid HLW.out.drew
                have d0 : w4.cell? (ad.add (j * 3)) = some (.int .i64 pa) := b1
                have d1 : w4.cell? ⟨(ad.add (j * 3)).block, (ad.add (j * 3)).off + 1, none⟩ = some (.int .i64 pc) := b2
                clear b1 b2
                have HLV := Lib.hid ((Later.refl w4).drew)
                go_region_held3 (fun W => W.cell? (ad.add (j * 3)) = some (.int .i64 pa) ∧ W.cell? ⟨(ad.add (j * 3)).block, (ad.add (j * 3)).off + 1, none⟩ = some (.int .i64 pc))
                  (first | (go_split_ands; exact ⟨b1, b2⟩) | (go_keep; done))
                  ((first
                    | (go_at_call 31; refine (HSM.out _ (HBX.out.trans (HLW.out.mono HBX.out.size)) pa pc (q : Int) (q : Int)).mono ?_; rintro e w5 ⟨⟨v5, rfl, hx5, hb5⟩, _⟩; have HLW := Lib.hid (HLW.out.trans hb5); have HLV := Lib.hid (HLV.out.trans hb5); have HX5 := Lib.hid hx5; clear hx5 hb5; have b1 := HLV.out.cell d0; have b2 := HLV.out.cell d1)
                    | (go_at_call 30; refine (fit_as v5 _ w5 HX5.out _ _ HF2.out).mono ?_; rintro e w6 ⟨rfl, hb6⟩; have HLW := Lib.hid (HLW.out.trans hb6); have HLV := Lib.hid (HLV.out.trans hb6); clear hb6; have b1 := HLV.out.cell d0; have b2 := HLV.out.cell d1)))
                have HB6 := Lib.hid (HBX.out.trans (HLW.out.mono HBX.out.size))
                have HLR6 := Lib.hid (HBE2.out.trans (HLW.out.mono HBE2.out.size))
                have HNF := Lib.hid (fun (h : ¬ (I64 (sumB es2 pa pc 0 (t : Int)) ∧ I64 (sumB es2 pa pc (q : Int) (q : Int)))) => HOVER2.out (fun hf => h (HFIT.out.1 hf _ HMEM.out t hqt hlt2)))
                rcases HC1.out with ⟨rfl, hi1⟩ | ⟨rfl, hi1⟩
                · rcases HC2.out with ⟨rfl, hi2⟩ | ⟨rfl, hi2⟩
                  · have HI12 := Lib.hid (And.intro hi1 hi2)
                    clear hi1 hi2 HNF
                    go_wp2_with fail
                    go_roundw
                    case rel => exact ⟨t + 1, by go_num, by omega, by omega, HLR6.out, fun u h1 h2 => by
                      by_cases hu : u = t
                      · subst hu; exact HI12.out
                      · exact HALL2.out u h1 (by omega)⟩
                    case measure => simp only [intOf]; omega
                  · have HNF := Lib.hid (HNF.out (fun h => hi2 h.2))
                    clear hi1 hi2
                    go_wp2_with fail
                    go_ret2
                    exact HBAD.out 3 _ (HBW.out.trans (HB6.out.mono HBW.out.size)) HNF.out
                · have HNF := Lib.hid (HNF.out (fun h => hi1 h.1))
                  clear hi1
                  go_wp2_with fail
                  go_ret2
                  exact HBAD.out 3 _ (HBW.out.trans (HB6.out.mono HBW.out.size)) HNF.out
              · obtain rfl : t = per := by omega
                go_wp2_with fail
                go_roundw
                case rel => exact ⟨j + 1, by go_num, by omega, HBX.out, fun p hp => by
                  rw [HTA.out] at hp
                  rcases List.mem_append.1 hp with h | h
                  · exact HALL.out p h
                  · rw [List.mem_singleton.1 h]; exact HALL2.out⟩
                case measure => simp only [intOf]; omega
          · obtain rfl : j = i := by omega
            rw [List.take_of_length_le (show ps.length ≤ j by rw [HM.out]; exact Nat.le_refl _)] at HALL
            have HYES3 := Lib.hid (HYES2.out (HFIT.out.2 HALL.out))
            have HLR := Lib.hid (HLM.out.later HBY.out)
            have hRr : Blk wr R 43 #[.int .i64 (per : Int), .int .i64 s.opn, .slice E xs.length ce] := HW.out.led.below (HBW.out.trans (HBY.out.mono HBW.out.size)) HW.out.led.lt
            have m2 : wr.cell? ⟨M, 2, none⟩ = some (.slice E' (n + 1) c') := by have := HLR.out.led.cell 2; rw [HYL.out] at this; exact this
            have r2 : wr.cell? ⟨R, 2, none⟩ = some (.slice E xs.length ce) := hRr.cell 2
            have r3 := hRr.frozen 2
            have HRR := Lib.hid hRr
            have hn1 : ((n + 1 : Nat) : Int) - 1 = (n : Int) := by omega
            have HFIN := Lib.hid (show RPost b0 R per s (q : Int) ps w (.returned (.tuple #[.int .i64 (n : Int), .int .i64 0])) (wr.setCell ⟨R, 2, none⟩ (.slice E' (n + 1) c')) from by
              unfold RPost
              rw [HYES3.out.1, HYES3.out.2.1, HYES3.out.2.2]
              refine ⟨rfl, ⟨?_, ys, E', c', ?_, ?_⟩, kq_put hb0 HW.out.led HW.out.hR (HBW.out.trans (HBY.out.mono HBW.out.size)) 2 _⟩
              · have := (HBW.out.trans (HBY.out.mono HBW.out.size)).size
                simp [World.setCell]; omega
              · have := rledw_put HRR.out HLR.out HW.out.hR
                rw [HYL.out, HO.out] at this
                exact this
              · rw [HYE.out])
            clear hRr HRR HLR HLM HYES2 HYES3
            go_wp2_with fail
            go_ret2
            exact HFIN.out
end
section
open Go.RowKit Go.Proofs.Ytmijcgcppankcaa.Cents Go.Proofs.Ytmijcgcppankcaa.MV Go.Proofs.Ytmijcgcppankcaa.Net Go.Proofs.Ytmijcgcppankcaa.CO Go.Proofs.Ytmijcgcppankcaa.Exact
open Go.Maps (Keyed)
set_option linter.unusedVariables false
set_option linter.unusedSimpArgs false

theorem turnE_two (es : List Ent) (z : Ent) (i : Nat) (hi : i < es.length) : turnE (turnE (es ++ [z]) i) es.length = turnE es i ++ [{ z with turned := true }] := by
  have h1 : turnE (es ++ [z]) i = turnE es i ++ [z] := by
    unfold turnE
    rw [List.getD_eq_getElem?_getD, List.getElem?_append_left hi, ← List.getD_eq_getElem?_getD, List.set_append_left _ _ hi]
  rw [h1]
  have h2 : es.length = (turnE es i).length := by simp [turnE]
  rw [h2]
  generalize turnE es i = l
  unfold turnE
  rw [List.getD_eq_getElem?_getD, List.getElem?_append_right (Nat.le_refl _), Nat.sub_self, List.set_append_right _ _ (Nat.le_refl _), Nat.sub_self]
  rfl
/-- One entry's mark is set. -/
theorem rled_turn {b0 R per ce g i : Nat} {opn : Int} {xs : List EV} {w : World} (hL : RLedW b0 R per opn xs (some ⟨g, 0, none⟩) ce w) (hi : i < xs.length) : RLedW b0 R per opn (turn xs i) (some ⟨g, 0, none⟩) ce (w.setCell ⟨g, i * 3 + 2, none⟩ (.bool true)) := by
  have hgL : R ≠ g := fun e => own_blkne hL.own hL.led (by decide) (by rw [e]; rfl)
  refine ⟨?_, ?_, fun x hx => ?_, hL.hR⟩
  · rw [turn_len]
    exact hL.led.far hgL _
  · rw [turn_len, ← evc_set xs i hi]
    exact own_set3 hL.own _ _
  · obtain ⟨y, hy, h1, h2, _⟩ := turn_mem hx hi
    rw [h1, h2]
    exact ownsRow_setCell_other (hL.pst y hy) (fun e => own_apart (hL.pst y hy) hL.own (by decide) g e rfl) _
theorem kq_set {b0 R per ce g : Nat} {opn : Int} {xs : List EV} {w w' : World} (hb0 : b0 ≤ w'.heap.size) (h : Kq b0 w w') (hL : RLedW b0 R per opn xs (some ⟨g, 0, none⟩) ce w') (i : Nat) (u : Value) : Kq b0 w (w'.setCell ⟨g, i, none⟩ u) := by
  have hf := (Fr.refl (fun q => q = g) w').setCell (p := ⟨g, i, none⟩) (fun _ => rfl) u
  obtain ⟨cs, t, hg⟩ : ∃ cs t, w'.heap[g]? = some (.cells cs t) := own_cells hL.own g rfl
  have hlt := hL.own.lt g rfl
  have ht : t = 52 := by
    rcases hL.own.2 with ⟨h2, _⟩ | ⟨g', cap', cur, hv, _, hh, _⟩
    · cases h2
    · injection hv with e1 _ _
      injection e1 with e1
      injection e1 with e1
      subst e1
      exact blk_type (show Blk w' g t cs from hg) (show Blk w' g _ cur from hh)
  subst ht
  exact h.trans ⟨hf.os, hf.tape, hf.output, hf.size, fun j hj => hf.block j (by omega) (by omega), fun j hj _ hn => hf.block j hj (fun e => hn cs (e ▸ hg))⟩
def RRev (b0 R per : Nat) (s : St) (at_ x : Int) (w : World) (e : Ending) (w' : World) : Prop :=
  e = .returned (.tuple #[.int .i64 (rN per s at_ x), .int .i64 (rE per s at_ x)]) ∧ RfL b0 R per (rS per s at_ x) w' ∧ Kq b0 w w'
theorem rrev_bad {b0 R per : Nat} {s : St} {at_ x e : Int} {w w' : World} (hL : RfL b0 R per s w') (hk : Kq b0 w w') (h : rE per s at_ x = e) (he : e ≠ 0) : RRev b0 R per s at_ x w (.returned (.tuple #[.int .i64 0, .int .i64 e])) w' := by
  unfold RRev rN rS
  rw [h, if_neg he, if_neg he]
  exact ⟨rfl, hL, hk⟩
set_option maxHeartbeats 8000000 in
set_option maxRecDepth 100000 in
theorem rrev_led {b0 R per : Nat} {s : St} {w : World} (hL : RfL b0 R per s w) (hG : LedP per s) (at_ x : Int) :
    Calls Try.prog 13 #[lv R, .int .i64 at_, .int .i64 x] w (RRev b0 R per s at_ x w) := by
  have HRF := Lib.hid hL
  have hb0 := hL.size
  obtain ⟨_, xs, E, ce, hW, he⟩ := hL
  have hxl : s.es.length = xs.length := by rw [← he, ents_len]
  have c2 : w.cell? ⟨R, 2, none⟩ = some (.slice E xs.length ce) := hW.led.cell 2
  have hlen := hG.len
  rw [hxl] at hlen
  by_cases hh : hasP s.es.length at_
  rotate_left
  · have HB := Lib.hid (rrev_bad (at_ := at_) (x := x) HRF.out (Kq.refl b0 w) (show rE per s at_ x = 5 by unfold rE; rw [if_pos hh]) (by decide))
    rw [hxl] at hh
    unfold hasP at hh
    obtain ⟨n, hn⟩ : ∃ n, xs.length = n := ⟨_, rfl⟩
    rw [hn] at hh c2 hlen
    clear hW hG he hxl hn
    go_enter Try.func13, Try.ntmps13
    by_cases h1 : at_ < 0
    · clear hh
      go_wp2_with fail
      go_ret2
      exact HB.out
    · have h2 : (n : Int) ≤ at_ := by omega
      clear hh
      go_wp2_with fail
      go_ret2
      exact HB.out
  have hh' := hh
  rw [hxl] at hh'
  obtain ⟨i, rfl⟩ : ∃ i : Nat, at_ = (i : Int) := ⟨at_.toNat, by unfold hasP at hh; omega⟩
  have hi : i < xs.length := by unfold hasP at hh'; omega
  obtain ⟨g, rfl, _, a1, a2, _⟩ := hW.entry hi
  have hgd : s.es.getD i e0 = (xs.getD i ev0).e := by rw [← he, getD_ents]
  have hym : xs.getD i ev0 ∈ xs := by rw [List.getD_eq_getElem?_getD, List.getElem?_eq_getElem hi]; exact List.getElem_mem hi
  obtain ⟨y, hy⟩ : ∃ y, xs.getD i ev0 = y := ⟨_, rfl⟩
  rw [hy] at a1 a2 hgd hym
  have HEQ := Lib.hid (show rE per s (i : Int) x = if y.e.turned = true then 6 else if ∃ p ∈ y.e.ps, ¬ I64 (0 - p.amt) then 3 else pE per s x (negP y.e.ps) by
    unfold rE; rw [if_neg (fun h => h hh), Int.toNat_natCast, hgd])
  have hok := hG.ok y.e (by rw [← he]; exact List.mem_map_of_mem hym)
  have hown := hW.pst y hym
  obtain ⟨P, cp, hv, hcp⟩ := own_slice hown
  rw [hv] at a1 hown
  have HRP := Lib.hid ((Row.of_own hown (by decide)).weak (Nat.zero_le _))
  have HPI := Lib.hid (fun p hp => (hok.2.2.2.2 p hp).1)
  have hp32 := hok.2.2.1
  have HW := Lib.hid hW
  have HG := Lib.hid hG
  have HE := Lib.hid he
  have HGD := Lib.hid hgd
  have HSI := Lib.hid (show i < s.es.length by rw [hxl]; exact hi)
  have g0 : (0 : Int) ≤ (i : Int) := Int.natCast_nonneg _
  obtain ⟨m, hm⟩ : ∃ m, xs.length = m := ⟨_, rfl⟩
  obtain ⟨n, hn⟩ : ∃ n, y.e.ps.length = n := ⟨_, rfl⟩
  have HM := Lib.hid (hxl.trans hm)
  have HN := Lib.hid hn
  rw [hm] at c2 hi hlen
  rw [hn] at hp32 a1
  obtain ⟨ps, hps⟩ : ∃ ps, y.e.ps = ps := ⟨_, rfl⟩
  rw [hps] at HRP HPI HEQ HN
  have HPS := Lib.hid hps
  obtain ⟨tu, htu⟩ : ∃ tu, y.e.turned = tu := ⟨_, rfl⟩
  rw [htu] at a2 HEQ
  have g1 : (i : Int) < (m : Int) := by omega
  have dd1 : decide ((i : Int) < 0) = false := by rw [decide_eq_false_iff_not]; omega
  have dd2 : decide (m ≤ i) = false := by rw [decide_eq_false_iff_not]; omega
  have dd3 : decide ((m : Int) ≤ (i : Int)) = false := by rw [decide_eq_false_iff_not]; omega
  clear hW hG he hxl hh hh' hgd hym hy hok hown hv hcp hm hn hps htu
  cases tu with
  | true =>
    have HB := Lib.hid (rrev_bad (at_ := (i : Int)) (x := x) HRF.out (Kq.refl b0 w) (show rE per s (i : Int) x = 6 by rw [HEQ.out, if_pos rfl]) (by decide))
    go_enter Try.func13, Try.ntmps13
    go_wp2_with fail
    go_ret2
    exact HB.out
  | false =>
    rw [if_neg (show ¬ (false = true) by decide)] at HEQ
    have HO0 := Lib.hid (own_empty3 w 48 3 w.heap.size (Nat.le_refl _))
    have HB0 := Lib.hid (alloc1 w (.cells #[] 48))
    go_enter Try.func13, Try.ntmps13
    go_wp2_with fail
    go_loopw [8, 9] (fun v ii wr => ∃ (k : Nat) (B : Option Addr) (cb : Nat), v = .slice B k cb ∧ ii = .int .i64 (k : Int) ∧ k ≤ n ∧ (∀ p ∈ ps.take k, I64 (0 - p.amt)) ∧ wr.ownsRow w.heap.size 48 3 (.slice B k cb) k (cells (negP (ps.take k))) ∧ Below w.heap.size w wr) (fun _ ii _ => n - (intOf ii).toNat)
    case atStart => exact ⟨0, _, _, rfl, rfl, by omega, by simp, HO0.out, HB0.out⟩
    case round =>
      obtain ⟨k, B, cb, rfl, rfl, hk, hok, hown, hbe⟩ := hrel
      have HOK := Lib.hid hok
      have HO := Lib.hid hown
      have HB := Lib.hid hbe
      have d2 := cell_below' hbe c2
      have b1 := cell_below' hbe a1
      clear hok hown hbe
      have g2 : (0 : Int) ≤ (k : Int) := Int.natCast_nonneg _
      by_cases hkn : k < n
      · have hkl : k < ps.length := by rw [HN.out]; exact hkn
        obtain ⟨ad, rfl, _, q0, q1, q2⟩ := Net.Row.post (HRP.out.below HB.out) hkl
        have htk := take_end hkl
        have hmem : ps[k] ∈ ps := List.getElem_mem hkl
        obtain ⟨p, hp⟩ : ∃ p, p = ps[k] := ⟨_, rfl⟩
        rw [← hp] at q0 q1 q2 htk hmem
        have HXI := Lib.hid (HPI.out p hmem).2.2
        have HTK := Lib.hid htk
        have HMEM := Lib.hid hmem
        obtain ⟨pa, pc, px⟩ := p
        dsimp only at q0 q1 q2 HXI
        have g3 : (k : Int) < (n : Int) := by omega
        have hb1' : (k + 1) * 24 ≤ 140737488355328 := by omega
        have hb2' : k + 1 ≤ maxLen := by unfold maxLen; omega
        have hsz : w.heap.size ≤ wr.heap.size := HB.out.size
        have hbk := Blk.new wr 48 #[.int .i64 pa, .int .i64 pc, .int .i64 px]
        have HBK := Lib.hid hbk
        have HOA := Lib.hid (HO.out.alloc (.cells #[.int .i64 pa, .int .i64 pc, .int .i64 px] 48))
        have HBA := Lib.hid (HB.out.alloc HB.out.size (.cells #[.int .i64 pa, .int .i64 pc, .int .i64 px] 48))
        clear htk hp hmem hbk
        go_wp2_with fail
        refine (of_any (fun _ => True) px _ (fun _ _ => trivial) HXI.out).mono ?_
        rintro e w3 ⟨v3, rfl, hx3, hb3⟩
        have HX3 := Lib.hid hx3
        have HL3 := Lib.hid hb3
        clear hx3 hb3
        go_wp2_with fail
        refine (neg_any (fun _ => True) v3 px 7 w3 HX3.out).mono ?_
        rintro e w4 ⟨v4, rfl, hx4, hb4⟩
        have HX4 := Lib.hid (hx4.more (k' := 10) (by decide))
        have HL4 := Lib.hid (HL3.out.trans (hb4.mono HL3.out.size))
        clear hx4 hb4
        by_cases hsI : I64 (0 - px)
        · have HSI2 := Lib.hid hsI
          have HFT := Lib.hid (fit_as v4 _ w4 HX4.out (0 - px) 0 (fit_I (show -px = 0 - px by omega) hsI))
          obtain ⟨z, hz⟩ : ∃ z, 0 - px = z := ⟨_, rfl⟩
          rw [hz] at HFT
          have HZ := Lib.hid hz
          clear hsI hz
          go_wp2_with fail
          refine HFT.out.mono ?_
          rintro e w5 ⟨rfl, hb5⟩
          have HL5 := Lib.hid (HL4.out.trans (hb5.mono HL4.out.size))
          have hbk5 := HBK.out.below HL5.out HBK.out.lt
          have r0 : w5.cell? ⟨wr.heap.size, 0, none⟩ = some (.int .i64 pa) := hbk5.cell 0
          have r1 : w5.cell? ⟨wr.heap.size, 1, none⟩ = some (.int .i64 pc) := hbk5.cell 1
          have HO5 := Lib.hid (own_below HOA.out HL5.out)
          have HB5 := Lib.hid (HBA.out.trans (HL5.out.mono HBA.out.size))
          have hs5 : w.heap.size ≤ w5.heap.size := HB5.out.size
          have HN5 := Lib.hid (Blk.new w5 48 #[.int .i64 pa, .int .i64 pc, .int .i64 z])
          clear hb5 hbk5
          go_wp2_with (at_builtin; refine wpList_app E_post rfl (.tmp 70) (.tmp 77) rfl rfl (HO5.out.alloc _) ⟨w5.heap.size, 0, none⟩ 1 1 [.int .i64 pa, .int .i64 pc, .int .i64 z] rfl rfl (World.news_of_block HN5.out) (by simp [Value.oneCell']) hb1' hb2' (by simp; omega) (by decide) ?_; intro g5 cap5 w6 hown6 hg6 hat6; have HO6 := Lib.hid hown6; have HB6 := Lib.hid ((HB5.out.alloc HB5.out.size (.cells #[.int .i64 pa, .int .i64 pc, .int .i64 z] 48)).grown hg6 (by simp; omega) (fun j hj => (HO5.out.lt j hj).1)); clear hown6 hg6 hat6)
          go_roundw
          case rel =>
            refine ⟨k + 1, _, _, rfl, by go_num, by omega, fun p hp => ?_, ?_, HB6.out⟩
            · rw [HTK.out] at hp
              rcases List.mem_append.1 hp with h | h
              · exact HOK.out p h
              · rw [List.mem_singleton.1 h]; exact HSI2.out
            · rw [HTK.out, negP_snoc, cells_append, cells_one]
              have := HO6.out
              rw [← HZ.out] at this
              exact this
          case measure => simp only [intOf]; omega
        · have HFT := Lib.hid (fit_as v4 _ w4 HX4.out 0 3 (by unfold fitN fitE; rw [if_neg (by rw [show -px = 0 - px by omega]; exact hsI), if_neg (by rw [show -px = 0 - px by omega]; exact hsI)]; exact ⟨rfl, rfl⟩))
          have HE3 := Lib.hid (show rE per s (i : Int) x = 3 by rw [HEQ.out, if_pos ⟨_, HMEM.out, hsI⟩])
          clear hsI
          go_wp2_with fail
          refine HFT.out.mono ?_
          rintro e w5 ⟨rfl, hb5⟩
          have HB5 := Lib.hid (HBA.out.trans ((HL4.out.trans (hb5.mono HL4.out.size)).mono HBA.out.size))
          clear hb5
          go_wp2_with fail
          go_ret2
          exact rrev_bad (HRF.out.later HB5.out) (Kq.of hb0 HB5.out) HE3.out (by decide)
      · obtain rfl : k = n := by omega
        rw [List.take_of_length_le (show ps.length ≤ k by rw [HN.out]; exact Nat.le_refl _)] at HO HOK
        have hrow : Row wr 0 B (cells (negP ps)) := (Row.of_own HO.out (by decide)).weak (Nat.zero_le _)
        have hpost := rpost_led (HRF.out.later HB.out) HG.out x B (negP ps) cb hrow (by rw [negP_len, HN.out]; omega) (fun p hp => by
          unfold negP at hp
          obtain ⟨p0, hp0, rfl⟩ := List.mem_map.1 hp
          have h1 := HPI.out p0 hp0
          exact ⟨h1.1, h1.2.1, HOK.out p0 hp0⟩)
        rw [negP_len, HN.out] at hpost
        have HPOST := Lib.hid hpost
        have HE4 := Lib.hid (show rE per s (i : Int) x = pE per s x (negP ps) by rw [HEQ.out, if_neg (fun ⟨p, hp, h⟩ => h (HOK.out p hp))])
        have HKW := Lib.hid (Kq.of hb0 HB.out)
        clear hrow hpost
        by_cases hpe : pE per s x (negP ps) = 0
        rotate_left
        · have HPN := Lib.hid (show pN per s x (negP ps) = 0 by unfold pN; rw [if_neg hpe])
          have HPS2 := Lib.hid (show pS per s x (negP ps) = s by unfold pS; rw [if_neg hpe])
          have hne2 : (pE per s x (negP ps) == 0) = false := by simpa using hpe
          have HNE := Lib.hid hpe
          unfold RPost at HPOST
          rw [HPN.out, HPS2.out] at HPOST
          obtain ⟨pe, hpeq⟩ : ∃ pe, pE per s x (negP ps) = pe := ⟨_, rfl⟩
          rw [hpeq] at hpe hne2 HNE HE4 HPOST
          clear hpeq
          go_wp2_with fail
          refine HPOST.out.mono ?_
          rintro e w8 ⟨rfl, hL8, hk8⟩
          have HL8 := Lib.hid hL8
          have HK8 := Lib.hid (HKW.out.trans hk8)
          clear hL8 hk8
          go_wp2_with fail
          go_ret2
          exact rrev_bad HL8.out HK8.out HE4.out HNE.out
        · have HPN := Lib.hid (show pN per s x (negP ps) = (m : Int) by unfold pN; rw [if_pos hpe, HM.out])
          have HPS2 := Lib.hid (show pS per s x (negP ps) = ⟨s.opn, s.es ++ [⟨x.toNat, negP ps, false⟩]⟩ by unfold pS; rw [if_pos hpe])
          have HE5 := Lib.hid (HE4.out.trans hpe)
          unfold RPost at HPOST
          rw [HPN.out, HPS2.out, hpe] at HPOST
          clear hpe
          go_wp2_with fail
          refine HPOST.out.mono ?_
          rintro e w8 ⟨rfl, ⟨hs8, xs8, E8, c8, hL8, he8⟩, hk8⟩
          dsimp only at hL8 he8
          have hes : xs8.length = m + 1 := by rw [← ents_len, he8]; simp [HM.out]
          obtain ⟨g', rfl, _, _, d2, d3⟩ := hL8.entry (i := i) (by rw [hes]; omega)
          obtain ⟨g'', hg2, _, _, d4, d5⟩ := hL8.entry (i := m) (by rw [hes]; omega)
          injection hg2 with hg2
          injection hg2 with hg2
          subst hg2
          have l2 : w8.cell? ⟨R, 2, none⟩ = some (.slice (some ⟨g', 0, none⟩) (m + 1) c8) := by
            have := hL8.led.cell 2
            rw [hes] at this
            exact this
          have hLg : R ≠ g' := fun e => own_blkne hL8.own hL8.led (by decide) (by rw [e]; rfl)
          have hL9 := rled_turn hL8 (i := i) (by rw [hes]; omega)
          have hL10 := rled_turn hL9 (i := m) (by rw [turn_len, hes]; omega)
          have hkk := kq_set (by simpa [World.setCell] using hs8) (kq_set hs8 (HKW.out.trans hk8) hL8 (i * 3 + 2) (.bool true)) hL9 (m * 3 + 2) (.bool true)
          have hee : ents (turn (turn xs8 i) m) = turnE s.es i ++ [⟨x.toNat, negP ps, true⟩] := by
            rw [turn_ents, turn_ents, he8]
            have := turnE_two s.es ⟨x.toNat, negP ps, false⟩ i HSI.out
            rw [HM.out] at this
            exact this
          have HFIN := Lib.hid (show RRev b0 R per s (i : Int) x w (.returned (.tuple #[.int .i64 (m : Int), .int .i64 0])) ((w8.setCell ⟨g', i * 3 + 2, none⟩ (.bool true)).setCell ⟨g', m * 3 + 2, none⟩ (.bool true)) from by
            unfold RRev rN rS
            rw [HE5.out, if_pos rfl, if_pos rfl, HM.out, Int.toNat_natCast, HGD.out, HPS.out]
            exact ⟨rfl, ⟨by simpa [World.setCell] using hs8, _, _, _, hL10, hee⟩, hkk⟩)
          have g4 : (0 : Int) ≤ (m : Int) := Int.natCast_nonneg _
          have g5 : (i : Int) < (m : Int) + 1 := by omega
          have g6 : (m : Int) < (m : Int) + 1 := by omega
          have hLg2 : ¬ g' = R := fun e => hLg e.symm
          have hne1 : ¬ i * 3 + 2 = m * 3 + 2 := by omega
          have hne2 : ¬ m * 3 + 2 = i * 3 + 2 := by omega
          have hne3 : ¬ i = m := by omega
          have hne4 : ¬ m = i := by omega
          clear hL8 hL9 hL10 hkk hee he8 hk8 hs8 hes
          go_wp2_with fail
          go_ret2
          exact HFIN.out
end
end Go.Proofs.Ytmijcgcppankcaa.AC
