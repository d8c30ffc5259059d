/- The walk of the reference's Total. -/
import Derived.Test.YtkceeifhnohioaaFit
namespace Go.Proofs.Ytkceeifhnohioaa.Exact
open Go.RowKit Go.Proofs.Ytkceeifhnohioaa.Cents
set_option linter.unusedVariables false
set_option linter.unusedSimpArgs false

/-- In the loop of Total: the sum so far lies in its box. -/
structure TotW (w0 : World) (F : Nat → Prop) (s : Int) (ds : List Int) (E : Option Addr) (c k : Nat) (wr : World) : Prop where
  res : Blk wr w0.heap.size 47 #[.int .i64 0, .slice none 0 0]
  box : Blk wr (w0.heap.size + 1) 47 #[.int .i64 (EM.sgn s), .slice E ds.length c]
  row : RowF wr F E (ints ds)
  tells : EM.Tells ds s
  cap : ds.length ≤ c
  len : ds.length ≤ k
  be : Below w0.heap.size w0 wr
theorem TotW.ex {w0 wr : World} {F : Nat → Prop} {s : Int} {ds : List Int} {E : Option Addr} {c k : Nat} (h : TotW w0 F s ds E c k wr) : Ex wr F (.agg #[.int .i64 (EM.sgn s), .slice E ds.length c]) s k := ⟨ds, E, c, rfl, h.cap, h.len, h.row, h.tells⟩
theorem TotW.later {w0 wr w' : World} {F : Nat → Prop} {s : Int} {ds : List Int} {E : Option Addr} {c k : Nat} (h : TotW w0 F s ds E c k wr) (hl : Later wr w') : TotW w0 F s ds E c k w' :=
  ⟨h.res.below hl h.res.lt, h.box.below hl h.box.lt, h.row.below hl, h.tells, h.cap, h.len, h.be.trans (hl.mono h.be.size)⟩
theorem TotW.store {w0 wr : World} {F : Nat → Prop} {s s' : Int} {ds es : List Int} {E E' : Option Addr} {c c' k k' : Nat} (h : TotW w0 F s ds E c k wr) (hF : ¬ F (w0.heap.size + 1)) (hx : RowF wr F E' (ints es)) (ht : EM.Tells es s') (hc : es.length ≤ c') (hk : es.length ≤ k') :
    TotW w0 F s' es E' c' k' ((wr.setCell ⟨w0.heap.size + 1, 0, none⟩ (.int .i64 (EM.sgn s'))).setCell ⟨w0.heap.size + 1, 1, none⟩ (.slice E' es.length c')) where
  res := (h.res.far (by simp) _).far (by simp) _
  box := (h.box.set_ 0 _).set_ 1 _
  row := (hx.setCell hF _).setCell hF _
  tells := ht
  cap := hc
  len := hk
  be := (h.be.setCell (by simp) _).setCell (by simp) _
theorem sum_take {xs : List Int} {j : Nat} (h : j < xs.length) : (xs.take (j + 1)).sum = (xs.take j).sum + xs[j] := by rw [take_snoc h, List.sum_append]; simp

set_option maxHeartbeats 2000000 in
set_option maxRecDepth 100000 in
theorem total_any (F : Nat → Prop) (A : Option Addr) (xs : List Int) (c : Nat) (w : World) (hF : New w F) (hx : ∀ x ∈ xs, I64 x) (hr : Row w 0 A (ints xs)) (hl : xs.length ≤ 80000) :
    Calls Try.prog 30 #[.slice A xs.length c] w (RetEx w F xs.sum (xs.length + 7)) := by
  have HF := Lib.hid hF
  have HX := Lib.hid hx
  have HR := Lib.hid hr
  clear hF hx hr
  go_enter Try.func30, Try.ntmps30
  go_wp2_with fail
  go_loopw [4] (fun i wr => ∃ (j : Nat) (ds : List Int) (E : Option Addr) (ce : Nat), i = .int .i64 (j : Int) ∧ j ≤ xs.length ∧ TotW w (But (But F w.heap.size) (w.heap.size + 1)) (xs.take j).sum ds E ce (j + 7) wr) (fun i _ => xs.length - (intOf i).toNat)
  case atStart =>
    refine ⟨0, [], none, 0, rfl, Nat.zero_le _, ?_⟩
    refine ⟨?_, ?_, RowF.none_, EM.Tells.zero, by simp, by simp, ?_⟩
    · exact (Blk.new w _ _).alloc _
    · have := Blk.new (w.alloc (.cells #[.int .i64 0, .slice none 0 0] 47)) 47 #[.int .i64 0, .slice none 0 0]
      simpa [EM.sgn] using this
    · exact ((Below.refl _ _).alloc (Nat.le_refl _) _).alloc (by simp) _
  case round =>
    obtain ⟨j, ds, E, ce, rfl, hj, ht⟩ := hrel
    have hsz := ht.box.lt
    have b0 : wr.cell? ⟨w.heap.size + 1, 0, none⟩ = some (.int .i64 (EM.sgn (xs.take j).sum)) := ht.box.cell 0
    have b1 : wr.cell? ⟨w.heap.size + 1, 1, none⟩ = some (.slice E ds.length ce) := ht.box.cell 1
    have HT := Lib.hid ht
    by_cases hlt : j < xs.length
    · have hlen : j < (ints xs).length := by rw [ints_len]; exact hlt
      obtain ⟨ad, hA, _, hc⟩ := (HR.out.below ht.be).at_ hlen
      subst hA
      obtain ⟨x, hxk⟩ : ∃ x, x = xs[j] := ⟨_, rfl⟩
      have HXX := Lib.hid hxk
      have hc' : wr.cell? (ad.add j) = some (.int .i64 x) := by rw [hc, hxk]; simp [ints]
      have HX64 := Lib.hid (show I64 x by rw [hxk]; exact HX.out _ (List.getElem_mem hlt))
      have HC := Lib.hid hc'
      have B0 := Lib.hid b0
      have B1 := Lib.hid b1
      generalize hs : (xs.take j).sum = s at *
      have HS := Lib.hid hs
      clear ht hc hxk hlen hs
      generalize hsg : EM.sgn s = sg at *
      have HSG := Lib.hid hsg
      clear hsg
      go_wp2_with fail
      go_region_with (first
        | (go_at_call 27; refine (of_any (But (But F w.heap.size) (w.heap.size + 1)) x _ ?_ HX64.out).mono ?_; exact (HF.out.but HT.out.be.size (Nat.lt_of_succ_lt HT.out.box.lt)).but (Nat.le_refl _) HT.out.box.lt; rintro e w1 ⟨vx, rfl, hxm, hb1⟩; have HL1 := Lib.hid ((Later.refl wr).drew.trans hb1); have HM := Lib.hid hxm; clear hxm hb1; have c1 : w1.cell? ⟨w.heap.size + 1, 0, none⟩ = some (.int .i64 sg) := HL1.out.cell B0.out; have c2 : w1.cell? ⟨w.heap.size + 1, 1, none⟩ = some (.slice E ds.length ce) := HL1.out.cell B1.out)
        | (go_at_call 26; refine (plus_any (But (But F w.heap.size) (w.heap.size + 1)) _ _ s x (j + 7) _ ?_ ?_ ?_ (by omega)).mono ?_; exact (HF.out.but (HT.out.later HL1.out).be.size (Nat.lt_of_succ_lt (HT.out.later HL1.out).box.lt)).but (Nat.le_refl _) (HT.out.later HL1.out).box.lt; (rw [← HSG.out]; exact (HT.out.later HL1.out).ex); exact HM.out.more (by omega); rintro e w2 ⟨_, rfl, ⟨es, E2, c2e, rfl, h2', h3', h4', h5'⟩, hb2⟩; have HL2 := Lib.hid (HL1.out.trans hb2); have H4 := Lib.hid h4'; have H5 := Lib.hid h5'; clear h4' h5' hb2; have d1 : w2.cell? ⟨w.heap.size + 1, 0, none⟩ = some (.int .i64 sg) := HL2.out.cell B0.out; have d2 : w2.cell? ⟨w.heap.size + 1, 1, none⟩ = some (.slice E ds.length ce) := HL2.out.cell B1.out; have d3 := (HT.out.later HL2.out).box.frozen 0; have d4 := (HT.out.later HL2.out).box.frozen 1))
      all_goals
        go_wp2_with fail
        go_roundw
        case rel =>
          have hst := (HT.out.later HL2.out).store (fun h => h.2 rfl) H4.out H5.out h2' (k' := j + 1 + 7) (by omega)
          rw [show s + x = (xs.take (j + 1)).sum by rw [sum_take hlt, HS.out, HXX.out]] at hst
          refine ⟨j + 1, es, E2, c2e, by go_num, by omega, ?_⟩
          rw [show EM.sgn (s + x) = EM.sgn (xs.take (j + 1)).sum by rw [sum_take hlt, HS.out, HXX.out]]
          exact hst
        case measure => simp only [intOf]; omega
    · obtain rfl : j = xs.length := by omega
      have hr0 : wr.cell? ⟨w.heap.size, 0, none⟩ = some (.int .i64 0) := ht.res.cell 0
      have hr1 : wr.cell? ⟨w.heap.size, 1, none⟩ = some (.slice none 0 0) := ht.res.cell 1
      have hf0 := ht.res.frozen 0
      have hf1 := ht.res.frozen 1
      rw [List.take_length] at HT
      rw [List.take_length] at b0
      clear ht
      generalize hs : xs.sum = s at *
      generalize hsg : EM.sgn s = sg at *
      have HSG := Lib.hid hsg
      clear hsg hs
      go_wp2_with fail
      refine bodyPost_end (v := .agg #[.int .i64 sg, .slice E ds.length ce]) (by simp [results, Try.results30, go_sem, hr0, hr1]) rfl ⟨_, rfl, ?_, ?_⟩
      · refine ⟨ds, E, ce, by rw [HSG.out], HT.out.cap, HT.out.len, ?_, HT.out.tells⟩
        exact RowF.weak ((HT.out.row.setCell (fun h => h.1.2 rfl) _).setCell (fun h => h.1.2 rfl) _) (fun q hq _ => hq.1.1)
      · exact (HT.out.be.setCell (by simp) _).setCell (by simp) _
end Go.Proofs.Ytkceeifhnohioaa.Exact
