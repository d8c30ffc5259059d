/- The walks of the reference's Set and Price. -/
import Derived.Test.YtleocecfcamjnaaBookR
namespace Go.Proofs.Ytleocecfcamjnaa.BK
open Go.RowKit Go.Proofs.Ytleocecfcamjnaa.Cents
set_option linter.unusedVariables false
set_option linter.unusedSimpArgs false

theorem info_rp : (Try.prog.info? 67).map (fun i => (i.zero, i.size, i.bytes)) = some (some (.agg #[.int .i64 0, .int .i64 0, .int .i64 0]), 3, 24) := by kernel_rfl
theorem E_rp : ElemT Try.prog 61 67 3 24 := .mk' Try.underlying61 info_rp rfl (by decide)
theorem zcells_len (l : List Pz) : (zcells l).length = l.length * 3 := flat_len pz_len l
theorem zcells_one (l : List Pz) : ∀ u ∈ zcells l, u.oneCell' = true := by
  intro u hu
  unfold zcells at hu
  rw [List.mem_flatMap] at hu
  obtain ⟨p, _, hp⟩ := hu
  simp [Pz.cell] at hp
  rcases hp with rfl | rfl | rfl <;> rfl
theorem zcells_snoc (l : List Pz) (p : Pz) : zcells (l ++ [p]) = zcells l ++ p.cell := by simp [zcells]
def RSetRet (S : Nat → Prop) (b : Nat) (its : List It) (L : List Pz) (w : World) (x : Int) (e : Ending) (w' : World) : Prop :=
  e = .returned (.int .i64 x) ∧ ∃ S', RbW S' b its L w' ∧ Fr S w w' ∧ (∀ k, S k → S' k) ∧ ∀ k, S' k → S k ∨ w.heap.size ≤ k
theorem rset_done {S : Nat → Prop} {b : Nat} {its : List It} {L : List Pz} {p : Pz} {I : Option Addr} {cI : Nat} {A : Option Addr} {c : Nat} {w w3 : World} {B g N cap : Nat}
    (h : RbI S b its L I cI A c w) (hb : Below w.heap.size w w3) (hB : w.heap.size ≤ B) (hN : (L ++ [p]).length = N) (hown : w3.ownsRow B 67 3 (.slice (some ⟨g, 0, none⟩) N cap) N (zcells (L ++ [p]))) :
    RSetRet S b its (L ++ [p]) w 0 (.returned (.int .i64 0)) (w3.setCell ⟨b, 1, none⟩ (.slice (some ⟨g, 0, none⟩) N cap)) := by
  subst hN
  have hsz : (w3.setCell ⟨b, 1, none⟩ (.slice (some ⟨g, 0, none⟩) (L ++ [p]).length cap)).heap.size = w3.heap.size := by simp [World.setCell]
  have h2 := h.later hb
  have hbw : b < w.heap.size := h.lt b h.sb
  have hF : ∀ {A xs}, RowF w3 (fun q => S q ∧ q ≠ b) A xs → RowF (w3.setCell ⟨b, 1, none⟩ (.slice (some ⟨g, 0, none⟩) (L ++ [p]).length cap)) (fun q => (S q ∨ (w.heap.size ≤ q ∧ q < w3.heap.size)) ∧ q ≠ b) A xs := fun hr =>
    (hr.setCell (p := ⟨b, 1, none⟩) (fun hq => hq.2 rfl) _).weak fun q hq _ => ⟨.inl hq.1, hq.2⟩
  have hnew : RowF (w3.setCell ⟨b, 1, none⟩ (.slice (some ⟨g, 0, none⟩) (L ++ [p]).length cap)) (fun q => (S q ∨ (w.heap.size ≤ q ∧ q < w3.heap.size)) ∧ q ≠ b) (some ⟨g, 0, none⟩) (zcells (L ++ [p])) := by
    have h3 : RowF w3 (fun q => w.heap.size ≤ q) (some ⟨g, 0, none⟩) (zcells (L ++ [p])) := (Row.of_own hown (by decide)).rowF fun k hk _ => Nat.le_trans hB hk
    have h4 := h3.setCell (p := ⟨b, 1, none⟩) (by simp only; omega) (.slice (some ⟨g, 0, none⟩) (L ++ [p]).length cap)
    refine h4.weak fun q hq hl => ?_
    rw [hsz] at hl
    exact ⟨.inr ⟨hq, hl⟩, by omega⟩
  have hbx := h2.bx.set_ 1 (.slice (some ⟨g, 0, none⟩) (L ++ [p]).length cap)
  refine ⟨rfl, fun q => S q ∨ (w.heap.size ≤ q ∧ q < w3.heap.size), ⟨I, cI, some ⟨g, 0, none⟩, cap, fun k hk => ?_, by simpa using hbx, .inl h.sb, hF h2.items, hnew⟩, (Fr.later hb).setCell (fun _ => h.sb) _, fun k hk => .inl hk, fun k hk => hk.imp id fun x => x.1⟩
  rw [hsz]
  rcases hk with hk | hk
  · exact h2.lt k hk
  · exact hk.2
theorem rset_bad {S : Nat → Prop} {b : Nat} {its : List It} {L : List Pz} {w : World} (h : RbW S b its L w) (item day n x : Int) (hx : (if inI its.length item = true then (if day < 1 ∨ 1000000 < day ∨ n < 1 then 1 else 0) else 5) = x) (hne : x ≠ 0) :
    Calls Try.prog 11 #[.pointer (some ⟨b, 0, none⟩), .int .i64 item, .int .i64 day, .int .i64 n] w fun e w' => e = .returned (.int .i64 x) ∧ Below w.heap.size w w' := by
  obtain ⟨I, cI, A, c, h⟩ := h
  have c0 := h.c0
  clear h
  unfold inI at hx
  generalize its.length = k at *
  by_cases h1 : item < 0
  · rw [decide_eq_false (show ¬ 0 ≤ item by omega), Bool.false_and, if_neg (by simp)] at hx
    subst hx
    go_enter Try.func11, Try.ntmps11
    go_wp2_with fail
    go_ret
    exact ⟨rfl, Below.refl _ _⟩
  rw [decide_eq_true (show 0 ≤ item by omega), Bool.true_and] at hx
  by_cases h2 : item < (k : Int)
  · rw [decide_eq_true h2, if_pos rfl] at hx
    have h3 : ¬ (k : Int) ≤ item := by omega
    by_cases d1 : day < 1
    · rw [if_pos (.inl d1)] at hx
      subst hx
      go_enter Try.func11, Try.ntmps11
      go_wp2_with fail
      go_ret
      exact ⟨rfl, Below.refl _ _⟩
    by_cases d2 : 1000000 < day
    · rw [if_pos (.inr (.inl d2))] at hx
      subst hx
      go_enter Try.func11, Try.ntmps11
      go_wp2_with fail
      go_ret
      exact ⟨rfl, Below.refl _ _⟩
    by_cases d3 : n < 1
    · rw [if_pos (.inr (.inr d3))] at hx
      subst hx
      go_enter Try.func11, Try.ntmps11
      go_wp2_with fail
      go_ret
      exact ⟨rfl, Below.refl _ _⟩
    · rw [if_neg (by omega)] at hx
      exact absurd hx.symm hne
  · rw [decide_eq_false h2, if_neg (by simp)] at hx
    subst hx
    have h3 : (k : Int) ≤ item := by omega
    go_enter Try.func11, Try.ntmps11
    go_wp2_with fail
    go_ret
    exact ⟨rfl, Below.refl _ _⟩
set_option maxHeartbeats 2000000 in
set_option maxRecDepth 100000 in
theorem rset_on {S : Nat → Prop} {b : Nat} {its : List It} {L : List Pz} {w : World} (h : RbW S b its L w) (hl : L.length ≤ 1000) (item day n x : Int) (hin : inI its.length item = true) (d1 : 1 ≤ day) (d2 : day ≤ 1000000) (d3 : 1 ≤ n) (hx : (if twice L item day = true then 6 else if 100 ≤ many L item then 4 else 0) = x) (M : List Pz) (hM : (if x = 0 then L ++ [⟨item, day, n⟩] else L) = M) :
    Calls Try.prog 11 #[.pointer (some ⟨b, 0, none⟩), .int .i64 item, .int .i64 day, .int .i64 n] w (RSetRet S b its M w x) := by
  have HMM := Lib.hid hM
  have HW := Lib.hid h
  obtain ⟨I, cI, A, c, h⟩ := h
  have c0 := h.c0
  have c1 := h.c1
  have HK := Lib.hid h
  have HRL := Lib.hid h.l.row
  have HX := Lib.hid hx
  unfold inI at hin
  simp only [Bool.and_eq_true, decide_eq_true_eq] at hin
  obtain ⟨i0, i1⟩ := hin
  obtain ⟨k, hk⟩ : ∃ k, its.length = k := ⟨_, rfl⟩
  obtain ⟨m, hm⟩ : ∃ m, L.length = m := ⟨_, rfl⟩
  rw [hk] at c0 i1
  rw [hm] at c1 hl
  have HM := Lib.hid hm
  have f1 : ¬ item < 0 := by omega
  have f2 : ¬ (k : Int) ≤ item := by omega
  have f3 : ¬ day < 1 := by omega
  have f4 : ¬ 1000000 < day := by omega
  have f5 : ¬ n < 1 := by omega
  have kept : ∀ y, x = y → y ≠ 0 → RSetRet S b its M w x (.returned (.int .i64 y)) w := fun y h1 h2 => by
    subst h1
    rw [← hM, if_neg h2]
    exact ⟨rfl, S, HW.out, Fr.refl _ _, fun _ h => h, fun _ h => .inl h⟩
  have KEPT := Lib.hid kept
  clear h hx hk hm kept d1 d2 d3 i0 hM
  go_enter Try.func11, Try.ntmps11
  go_wp2_with fail
  go_loop [9, 10] (fun v i => ∃ (j : Nat), v = .int .i64 (many (L.take j) item : Int) ∧ i = .int .i64 (j : Int) ∧ j ≤ m ∧ twice (L.take j) item day = false) (fun _ i => m - (intOf i).toNat)
  case atStart => exact ⟨0, by simp [many], rfl, by omega, by simp [twice]⟩
  case round =>
    obtain ⟨j, rfl, rfl, hj, htw⟩ := hrel
    have HTW := Lib.hid htw
    have hml := many_le (L.take j) item
    rw [List.length_take] at hml
    have g0 : (0 : Int) ≤ (j : Int) := Int.natCast_nonneg _
    by_cases hjm : j < m
    · have g1 : (j : Int) < (m : Int) := by omega
      obtain ⟨ad, rfl, z0, z1, z2⟩ := z_cells HRL.out (j := j) (by rw [HM.out]; exact hjm)
      have hmt := many_take (L := L) (k := j) (by rw [HM.out]; exact hjm) item
      have htt := twice_take (L := L) (k := j) (by rw [HM.out]; exact hjm) item day
      have htm := twice_mem (L := L) (k := j) (by rw [HM.out]; exact hjm) (item := item) (day := day)
      obtain ⟨p, hp⟩ : ∃ p, pzAt L j = p := ⟨_, rfl⟩
      rw [hp] at z0 z1 z2 hmt htt htm
      rw [htw, Bool.false_or] at htt
      obtain ⟨p1, p2, p3⟩ := p
      dsimp only at z0 z1 z2 hmt htt htm
      have HMT := Lib.hid hmt
      have HTT := Lib.hid htt
      have HTM := Lib.hid htm
      generalize many (L.take j) item = cn at *
      clear hmt htt htm hp htw
      by_cases e1 : p1 = item
      · subst e1
        by_cases e2 : p2 = day
        · subst e2
          have hx6 := HX.out
          rw [HTM.out rfl rfl, if_pos rfl] at hx6
          have KP := Lib.hid (KEPT.out 6 hx6.symm (by decide))
          clear hx6
          go_wp2_with fail
          go_ret
          exact KP.out
        · have e3 : (p2 == day) = false := by simpa using e2
          have HT3 := Lib.hid (show twice (L.take (j + 1)) p1 day = false by rw [HTT.out]; simp [e2])
          have HM3 := Lib.hid (show many (L.take (j + 1)) p1 = cn + 1 by rw [HMT.out, if_pos rfl])
          go_wp2_with fail
          go_round
          case rel => exact ⟨j + 1, by rw [HM3.out]; go_num, by go_num, by omega, HT3.out⟩
          case measure => simp only [intOf]; omega
      · have e3 : (p1 == item) = false := by simpa using e1
        have HT3 := Lib.hid (show twice (L.take (j + 1)) item day = false by rw [HTT.out]; simp [e1])
        have HM3 := Lib.hid (show many (L.take (j + 1)) item = cn by rw [HMT.out, if_neg e1]; rfl)
        go_wp2_with fail
        go_round
        case rel => exact ⟨j + 1, by rw [HM3.out], by go_num, by omega, HT3.out⟩
        case measure => simp only [intOf]; omega
    · obtain rfl : j = m := by omega
      rw [List.take_of_length_le (by rw [HM.out]; exact Nat.le_refl _)] at htw hml ⊢
      have hx2 := HX.out
      rw [htw, if_neg (by simp)] at hx2
      clear htw
      by_cases h100 : 100 ≤ many L item
      · rw [if_pos h100] at hx2
        have h1 : (100 : Int) ≤ (many L item : Int) := by omega
        have KP := Lib.hid (KEPT.out 4 hx2.symm (by decide))
        generalize many L item = cn at *
        clear hx2
        go_wp2_with fail
        go_ret
        exact KP.out
      · rw [if_neg h100] at hx2
        subst hx2
        have h1 : ¬ (100 : Int) ≤ (many L item : Int) := by omega
        generalize many L item = cn at *
        have HO := Lib.hid (own_empty w 67 3 w.heap.size (Nat.le_refl _))
        have hb3 : (j + 1) * 24 ≤ 140737488355328 := by omega
        have hb4 : j + 1 ≤ maxLen := by unfold maxLen; omega
        clear KEPT h100
        by_cases h0 : L = []
        · subst h0
          have hj0 : j = 0 := by rw [← HM.out]; rfl
          subst hj0
          have hb1 := alloc1 w (.cells #[] 67)
          have e1 : (w.alloc (.cells #[] 67)).cell? ⟨b, 1, none⟩ = some (.slice A 0 c) := cell_below' hb1 c1
          go_wp2_with (at_builtin; first | (refine wpList_app0 E_rp rfl (.tmp 66) (.tmp 70) rfl rfl rfl (Nat.le_refl 0) ?_) | (refine wpList_app E_rp rfl (.tmp 71) (.tmp 76) rfl rfl (HO.out.alloc _) ⟨w.heap.size + 1, 0, none⟩ 1 1 [.int .i64 item, .int .i64 day, .int .i64 n] rfl rfl (fun j u hu => by rw [addr_add, Nat.zero_add]; have hbk := Blk.new (w.alloc (.cells #[] 67)) 67 #[.int .i64 item, .int .i64 day, .int .i64 n]; have := hbk.cell j; simp only [World.size_alloc] at this; exact this.trans (by simpa using hu)) (by simp [Value.oneCell']) hb3 hb4 (by simp; omega) (by decide) ?_; intro g cap w3 hown hg hat; have HO3 := Lib.hid hown; have hb5 := ((alloc1 w (.cells #[] 67)).alloc (by simp) (.cells #[.int .i64 item, .int .i64 day, .int .i64 n] 67)).grown hg (by simp; omega) (fun k hk => by have := (HO.out.lt k hk).1; omega); have HB5 := Lib.hid hb5; have k1 : w3.cell? ⟨b, 1, none⟩ = some (.slice A 0 c) := cell_below' hb5 c1; have k2 := ((HK.out.later hb5).bx.frozen 1); clear hown hg hat hb5))
          go_ret
          have hown := HO3.out
          rw [← HMM.out, if_pos trivial]
          exact rset_done HK.out HB5.out (Nat.le_refl _) rfl (by rw [zcells_snoc]; exact hown)
        · have hpos : 0 < (zcells L).length := by rw [zcells_len]; have := List.length_pos_iff.2 h0; omega
          obtain ⟨ad, rfl, _, hc⟩ := HRL.out hpos
          have hb0 := alloc1 w (.cells #[] 67)
          have e1 : (w.alloc (.cells #[] 67)).cell? ⟨b, 1, none⟩ = some (.slice (some ad) j c) := cell_below' hb0 c1
          have HC := Lib.hid (fun j u h => cell_below' hb0 (hc j u h))
          have HL := Lib.hid (zcells_len L)
          rw [HM.out] at HL
          have h1j : 0 < j := by rw [← HM.out]; exact List.length_pos_iff.2 h0
          have hb1 : (0 + j) * 24 ≤ 140737488355328 := by omega
          have hb2 : 0 + j ≤ maxLen := by unfold maxLen; omega
          clear h0 hpos hc hb0
          go_wp2_with (at_builtin; first | (refine wpList_app E_rp rfl (.tmp 66) (.tmp 70) rfl rfl HO.out ad j c (zcells L) rfl HL.out HC.out (zcells_one _) hb1 hb2 (by simp) h1j ?_; intro g2 cap2 w2 hown hg hat; have hz := Nat.zero_add j; rw [hz] at hown ⊢; have HO2 := Lib.hid hown; have HB2 := Lib.hid ((alloc1 w (.cells #[] 67)).grown hg (by simp) (fun k hk => by have := (HO.out.lt k hk).1; omega)); clear hown hg hat hz) | (refine wpList_app E_rp rfl (.tmp 71) (.tmp 76) rfl rfl (HO2.out.alloc _) ⟨w2.heap.size, 0, none⟩ 1 1 [.int .i64 item, .int .i64 day, .int .i64 n] rfl rfl (World.news_of_block (heap_alloc_new w2 _)) (by simp [Value.oneCell']) hb3 hb4 (Nat.le_trans HB2.out.size (by simp)) (by decide) ?_; intro g cap w3 hown hg hat; have HO3 := Lib.hid hown; have hb5 := (HB2.out.alloc HB2.out.size (.cells #[.int .i64 item, .int .i64 day, .int .i64 n] 67)).grown hg (Nat.le_trans HB2.out.size (by simp)) (fun k hk => by have := (HO2.out.lt k hk).1; omega); have HB5 := Lib.hid hb5; have k1 : w3.cell? ⟨b, 1, none⟩ = some (.slice (some ad) j c) := cell_below' hb5 c1; have k2 := ((HK.out.later hb5).bx.frozen 1); clear hown hg hat hb5))
          go_ret
          have hown := HO3.out
          rw [← HMM.out, if_pos trivial]
          exact rset_done HK.out HB5.out (Nat.le_refl _) (by rw [List.length_append, HM.out]; rfl) (by rw [zcells_snoc]; exact hown)
end Go.Proofs.Ytleocecfcamjnaa.BK
