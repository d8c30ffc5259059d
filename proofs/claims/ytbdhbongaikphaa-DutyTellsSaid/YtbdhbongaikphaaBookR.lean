/- The reference's book in memory; the walk of its New. -/
import Derived.Test.YtbdhbongaikphaaBookMath3
import Derived.Test.YtbdhbongaikphaaBy
import Derived.Test.YtbdhbongaikphaaFit
import Derived.Test.YtbdhbongaikphaaFitWas
import Derived.Deep.QuietTactic
import Derived.BigQuiet
import Derived.Deep.RegionHeld3
namespace Go.Proofs.Ytbdhbongaikphaa.BK
open Go.RowKit Go.Proofs.Ytbdhbongaikphaa.Cents
set_option linter.unusedVariables false
set_option linter.unusedSimpArgs false

/-- The reference's book at block b, all of whose blocks are of S. -/
structure RbI (S : Nat → Prop) (b : Nat) (its : List It) (L : List Pz) (I : Option Addr) (cI : Nat) (A : Option Addr) (c : Nat) (w : World) : Prop where
  lt : ∀ k, S k → k < w.heap.size
  bx : Blk w b 62 #[.slice I its.length cI, .slice A L.length c]
  sb : S b
  items : RowF w (fun q => S q ∧ q ≠ b) I (icells its)
  l : RowF w (fun q => S q ∧ q ≠ b) A (zcells L)
def RbW (S : Nat → Prop) (b : Nat) (its : List It) (L : List Pz) (w : World) : Prop := ∃ I cI A c, RbI S b its L I cI A c w
section
variable {S : Nat → Prop} {b : Nat} {its : List It} {L : List Pz} {I : Option Addr} {cI : Nat} {A : Option Addr} {c : Nat} {w w' : World}
theorem RbI.keep (h : RbI S b its L I cI A c w) (hk : ∀ k, S k → w'.heap[k]? = w.heap[k]?) (hs : w.heap.size ≤ w'.heap.size) : RbI S b its L I cI A c w' where
  lt := fun k hS => Nat.lt_of_lt_of_le (h.lt k hS) hs
  bx := (hk b h.sb).trans h.bx
  sb := h.sb
  items := h.items.keep fun p hp u hu => cell_keep (hk _ hp.1) hu
  l := h.l.keep fun p hp u hu => cell_keep (hk _ hp.1) hu
theorem RbI.later (h : RbI S b its L I cI A c w) (hb : Below w.heap.size w w') : RbI S b its L I cI A c w' := h.keep (fun k hS => hb.block k (h.lt k hS)) hb.size
theorem RbW.later (h : RbW S b its L w) (hb : Below w.heap.size w w') : RbW S b its L w' := by
  obtain ⟨I, cI, A, c, h⟩ := h
  exact ⟨I, cI, A, c, h.later hb⟩
theorem RbW.fr {T : Nat → Prop} (h : RbW S b its L w) (hf : Fr T w w') (hd : ∀ k, S k → ¬ T k) : RbW S b its L w' := by
  obtain ⟨I, cI, A, c, h⟩ := h
  exact ⟨I, cI, A, c, h.keep (fun k hS => hf.block k (h.lt k hS) (hd k hS)) hf.size⟩
theorem RbI.c0 (h : RbI S b its L I cI A c w) : w.cell? ⟨b, 0, none⟩ = some (.slice I its.length cI) := h.bx.cell 0
theorem RbI.c1 (h : RbI S b its L I cI A c w) : w.cell? ⟨b, 1, none⟩ = some (.slice A L.length c) := h.bx.cell 1
end
def RNewRet (its : List It) (w : World) (e : Ending) (w' : World) : Prop := ∃ S b, e = .returned (.tuple #[.pointer (some ⟨b, 0, none⟩), .int .i64 0]) ∧ RbW S b its [] w' ∧ Below w.heap.size w w' ∧ ∀ k, S k → w.heap.size ≤ k
theorem rnew_done {w w2 w3 : World} {its : List It} {B : Option Addr} {n c q : Nat} (hq : w2.heap.size = q) (hn : its.length = n) (hb : Below w.heap.size w w2) (hr : Row w2 w.heap.size B (icells its)) (h3 : w3 = w2.alloc (.cells #[.slice B n c, .slice none 0 0] 62)) :
    RNewRet its w (.returned (.tuple #[.pointer (some ⟨q, 0, none⟩), .int .i64 0])) w3 := by
  subst h3 hn hq
  refine ⟨fun q => w.heap.size ≤ q ∧ q < w2.heap.size + 1, w2.heap.size, rfl, ⟨B, c, none, 0, fun k hk => by simpa using hk.2, Blk.new _ _ _, ⟨hb.size, by omega⟩, ?_, RowF.none_⟩, hb.alloc hb.size _, fun k hk => hk.1⟩
  exact (hr.rowF (F := fun q => (w.heap.size ≤ q ∧ q < w2.heap.size + 1) ∧ q ≠ w2.heap.size) fun q hq hl => ⟨⟨hq, by omega⟩, by omega⟩).below (alloc1 _ _)
theorem rnew_bad (A : Option Addr) (its : List It) (c : Nat) (w : World) (h : 40 < its.length) (hl : its.length ≤ 1000000) :
    Calls Try.prog 8 #[.slice A its.length c] w fun e w' => e = .returned (.tuple #[.pointer none, .int .i64 4]) ∧ Below w.heap.size w w' := by
  generalize its.length = n at *
  have h2 : decide ((40 : Int) < (n : Int)) = true := by simp; omega
  clear h
  go_enter Try.func8, Try.ntmps8
  go_wp2_with fail
  go_ret2
  exact ⟨rfl, Below.refl _ _⟩
/-- What the reference's New answers. -/
def RNewAny (its : List It) (w : World) (e : Ending) (w' : World) : Prop := (newE its = 0 ∧ RNewRet its w e w') ∨ (newE its ≠ 0 ∧ e = .returned (.tuple #[.pointer none, .int .i64 (newE its)]) ∧ Below w.heap.size w w')
set_option maxHeartbeats 2000000 in
set_option maxRecDepth 100000 in
theorem rnew_any (A : Option Addr) (its : List It) (c : Nat) (w : World) (hr : Row w 0 A (icells its)) (hl : its.length ≤ 1000000) :
    Calls Try.prog 8 #[.slice A its.length c] w (RNewAny its w) := by
  by_cases h40 : 40 < its.length
  · refine (rnew_bad A its c w h40 hl).mono ?_
    rintro e w' ⟨rfl, hb⟩
    have hE : newE its = 4 := by unfold newE; rw [if_pos h40]
    exact .inr ⟨by rw [hE]; decide, by rw [hE], hb⟩
  have HR := Lib.hid hr
  have HE := Lib.hid (show newE its = if anyW its = true then 1 else 0 by unfold newE; rw [if_neg h40])
  obtain ⟨n, hn⟩ : ∃ n, its.length = n := ⟨_, rfl⟩
  have HN := Lib.hid hn
  rw [hn] at h40 hl ⊢
  have h2 : decide ((40 : Int) < (n : Int)) = false := by simp; omega
  clear hr hn
  go_enter Try.func8, Try.ntmps8
  go_wp2_with fail
  go_loopw [4] (fun v wr => ∃ (j : Nat), v = .int .i64 (j : Int) ∧ j ≤ n ∧ anyW (its.take j) = false ∧ Below w.heap.size w wr) (fun v _ => n - (intOf v).toNat)
  case atStart => exact ⟨0, rfl, by omega, by simp [anyW], Below.refl _ _⟩
  case round =>
    obtain ⟨j, rfl, hj, hany, hbe⟩ := hrel
    have HBE := Lib.hid hbe
    have g0 : (0 : Int) ≤ (j : Int) := Int.natCast_nonneg _
    by_cases hjn : j < n
    · have g1 : (j : Int) < (n : Int) := by omega
      obtain ⟨ad, rfl, c0, c1, c2, c3⟩ := i_cells (HR.out.below hbe) (j := j) (by rw [HN.out]; exact hjn)
      have hta := take_anyw (xs := its) (j := j) (by rw [HN.out]; exact hjn)
      have hmem := itAt_mem (xs := its) (j := j) (by rw [HN.out]; exact hjn)
      obtain ⟨x, hx⟩ : ∃ x, itAt its j = x := ⟨_, rfl⟩
      rw [hx] at c0 c1 c2 c3 hta hmem
      rw [hany, Bool.false_or] at hta
      obtain ⟨a, g, m, p⟩ := x
      dsimp only at c0 c1 c2 c3
      have HBZ := Lib.hid (HBE.out.trans ((alloc1 wr (.cells #[.int .i64 a, .int .i64 g, .int .i64 m, .int .i64 p] 50)).mono HBE.out.size))
      have hbad : wrongI ⟨a, g, m, p⟩ = true → anyW its = true := fun h => by
        unfold anyW
        rw [List.any_eq_true]
        exact ⟨_, hmem, h⟩
      have HBAD := Lib.hid (fun h => show newE its = 1 by rw [HE.out, if_pos (hbad h)])
      have HTA := Lib.hid hta
      clear hany hbe hta hmem hx hbad
      by_cases d0 : a < 0
      · have hE1 := HBAD.out (by simp [wrongI, d0])
        go_wp2_with fail
        go_ret2
        exact .inr ⟨by rw [hE1]; decide, by rw [hE1]; rfl, HBZ.out⟩
      by_cases d1 : 2 < a
      · have hE1 := HBAD.out (by simp [wrongI, d1])
        go_wp2_with fail
        go_ret2
        exact .inr ⟨by rw [hE1]; decide, by rw [hE1]; rfl, HBZ.out⟩
      by_cases d2 : g < 0
      · have hE1 := HBAD.out (by simp [wrongI, d2])
        go_wp2_with fail
        go_ret2
        exact .inr ⟨by rw [hE1]; decide, by rw [hE1]; rfl, HBZ.out⟩
      by_cases d3 : 99 < g
      · have hE1 := HBAD.out (by simp [wrongI, d3])
        go_wp2_with fail
        go_ret2
        exact .inr ⟨by rw [hE1]; decide, by rw [hE1]; rfl, HBZ.out⟩
      by_cases d4 : m < 0
      · have hE1 := HBAD.out (by simp [wrongI, d4])
        go_wp2_with fail
        go_ret2
        exact .inr ⟨by rw [hE1]; decide, by rw [hE1]; rfl, HBZ.out⟩
      by_cases d5 : 3 < m
      · have hE1 := HBAD.out (by simp [wrongI, d5])
        go_wp2_with fail
        go_ret2
        exact .inr ⟨by rw [hE1]; decide, by rw [hE1]; rfl, HBZ.out⟩
      by_cases d6 : p < 1
      · have hE1 := HBAD.out (by simp [wrongI, d6])
        go_wp2_with fail
        go_ret2
        exact .inr ⟨by rw [hE1]; decide, by rw [hE1]; rfl, HBZ.out⟩
      have HT2 := Lib.hid (show anyW (its.take (j + 1)) = false by rw [HTA.out]; simp [wrongI, d0, d1, d2, d3, d4, d5, d6])
      go_wp2_with fail
      go_roundw
      case rel => exact ⟨j + 1, by go_num, by omega, HT2.out, HBZ.out⟩
      case measure => simp only [intOf]; omega
    · obtain rfl : j = n := by omega
      rw [List.take_of_length_le (by rw [HN.out]; omega)] at hany
      have HE0 := Lib.hid (show newE its = 0 by rw [HE.out, hany]; simp)
      clear hany hbe
      by_cases h0 : its = []
      · subst h0
        have hj0 : j = 0 := by rw [← HN.out]; rfl
        subst hj0
        go_wp2_with (at_builtin; refine wpList_app0 E_it rfl (.tmp 52) (.tmp 53) rfl rfl rfl (Nat.le_refl 0) ?_)
        go_ret2
        exact .inl ⟨HE0.out, rnew_done (B := some ⟨wr.heap.size, 0, none⟩) (by simp) HN.out (HBE.out.alloc HBE.out.size (.cells #[] 50)) (fun h => absurd h (by simp [icells])) rfl⟩
      · have hpos : 0 < (icells its).length := by rw [icells_len]; have := List.length_pos_iff.2 h0; omega
        obtain ⟨ad, rfl, _, hc⟩ := (HR.out.below HBE.out) hpos
        have HC := Lib.hid (fun j u h => cell_below' (alloc1 wr (.cells #[] 50)) (hc j u h))
        have HL := Lib.hid (icells_len its)
        have HO := Lib.hid (own_empty wr 50 4 wr.heap.size (Nat.le_refl _))
        have h1 : 0 < j := by rw [← HN.out]; exact List.length_pos_iff.2 h0
        rw [HN.out] at HL
        have hb1 : (0 + j) * 32 ≤ 140737488355328 := by omega
        have hb2 : 0 + j ≤ maxLen := by unfold maxLen; omega
        clear h0 hpos hc
        go_wp2_with (at_builtin; refine wpList_app E_it rfl (.tmp 52) (.tmp 53) rfl rfl HO.out ad j c (icells its) rfl HL.out HC.out (icells_one _) hb1 hb2 (by simp) h1 ?_; intro g cap w2 hown hg hat; have HO2 := Lib.hid hown; have HB2 := Lib.hid ((HBE.out.alloc HBE.out.size (.cells #[] 50)).grown hg (Nat.le_trans HBE.out.size (by simp)) (fun k hk => by have := (HO.out.lt k hk).1; have := HBE.out.size; omega)); clear hown hg hat)
        go_ret2
        have hown := HO2.out
        rw [Nat.zero_add, List.nil_append] at hown
        exact .inl ⟨HE0.out, rnew_done (B := some ⟨g, 0, none⟩) rfl HN.out HB2.out ((Row.of_own hown (by decide)).weak HBE.out.size) rfl⟩
section
open Go.RowKit Go.Proofs.Ytbdhbongaikphaa.Cents
set_option linter.unusedVariables false
set_option linter.unusedSimpArgs false

theorem info_rp : (Try.prog.info? 96).map (fun i => (i.zero, i.size, i.bytes)) = some (some (.agg #[.int .i64 0, .int .i64 0, .int .i64 0]), 3, 24) := by kernel_rfl
theorem E_rp : ElemT Try.prog 60 96 3 24 := .mk' Try.underlying60 info_rp rfl (by decide)
theorem zcells_len (l : List Pz) : (zcells l).length = l.length * 3 := flat_len pz_len l
theorem zcells_one (l : List Pz) : ∀ u ∈ zcells l, u.oneCell' = true := by
  intro u hu
  unfold zcells at hu
  rw [List.mem_flatMap] at hu
  obtain ⟨p, _, hp⟩ := hu
  simp [Pz.cell] at hp
  rcases hp with rfl | rfl | rfl <;> rfl
theorem zcells_snoc (l : List Pz) (p : Pz) : zcells (l ++ [p]) = zcells l ++ p.cell := by simp [zcells]
def RSetRet (S : Nat → Prop) (b : Nat) (its : List It) (L : List Pz) (w : World) (x : Int) (e : Ending) (w' : World) : Prop :=
  e = .returned (.int .i64 x) ∧ ∃ S', RbW S' b its L w' ∧ Fr S w w' ∧ (∀ k, S k → S' k) ∧ ∀ k, S' k → S k ∨ w.heap.size ≤ k
theorem rset_done {S : Nat → Prop} {b : Nat} {its : List It} {L : List Pz} {p : Pz} {I : Option Addr} {cI : Nat} {A : Option Addr} {c : Nat} {w w3 : World} {B g N cap : Nat}
    (h : RbI S b its L I cI A c w) (hb : Below w.heap.size w w3) (hB : w.heap.size ≤ B) (hN : (L ++ [p]).length = N) (hown : w3.ownsRow B 96 3 (.slice (some ⟨g, 0, none⟩) N cap) N (zcells (L ++ [p]))) :
    RSetRet S b its (L ++ [p]) w 0 (.returned (.int .i64 0)) (w3.setCell ⟨b, 1, none⟩ (.slice (some ⟨g, 0, none⟩) N cap)) := by
  subst hN
  have hsz : (w3.setCell ⟨b, 1, none⟩ (.slice (some ⟨g, 0, none⟩) (L ++ [p]).length cap)).heap.size = w3.heap.size := by simp [World.setCell]
  have h2 := h.later hb
  have hbw : b < w.heap.size := h.lt b h.sb
  have hF : ∀ {A xs}, RowF w3 (fun q => S q ∧ q ≠ b) A xs → RowF (w3.setCell ⟨b, 1, none⟩ (.slice (some ⟨g, 0, none⟩) (L ++ [p]).length cap)) (fun q => (S q ∨ (w.heap.size ≤ q ∧ q < w3.heap.size)) ∧ q ≠ b) A xs := fun hr =>
    (hr.setCell (p := ⟨b, 1, none⟩) (fun hq => hq.2 rfl) _).weak fun q hq _ => ⟨.inl hq.1, hq.2⟩
  have hnew : RowF (w3.setCell ⟨b, 1, none⟩ (.slice (some ⟨g, 0, none⟩) (L ++ [p]).length cap)) (fun q => (S q ∨ (w.heap.size ≤ q ∧ q < w3.heap.size)) ∧ q ≠ b) (some ⟨g, 0, none⟩) (zcells (L ++ [p])) := by
    have h3 : RowF w3 (fun q => w.heap.size ≤ q) (some ⟨g, 0, none⟩) (zcells (L ++ [p])) := (Row.of_own hown (by decide)).rowF fun k hk _ => Nat.le_trans hB hk
    have h4 := h3.setCell (p := ⟨b, 1, none⟩) (by simp only; omega) (.slice (some ⟨g, 0, none⟩) (L ++ [p]).length cap)
    refine h4.weak fun q hq hl => ?_
    rw [hsz] at hl
    exact ⟨.inr ⟨hq, hl⟩, by omega⟩
  have hbx := h2.bx.set_ 1 (.slice (some ⟨g, 0, none⟩) (L ++ [p]).length cap)
  refine ⟨rfl, fun q => S q ∨ (w.heap.size ≤ q ∧ q < w3.heap.size), ⟨I, cI, some ⟨g, 0, none⟩, cap, fun k hk => ?_, by simpa using hbx, .inl h.sb, hF h2.items, hnew⟩, (Fr.later hb).setCell (fun _ => h.sb) _, fun k hk => .inl hk, fun k hk => hk.imp id fun x => x.1⟩
  rw [hsz]
  rcases hk with hk | hk
  · exact h2.lt k hk
  · exact hk.2
end
section
open Go.RowKit Go.Proofs.Ytbdhbongaikphaa.Cents Go.Proofs.Ytbdhbongaikphaa.Exact
set_option linter.unusedVariables false
set_option linter.unusedSimpArgs false

theorem below_in {w w1 w2 : World} (h : Below w.heap.size w w1) (k : Below w1.heap.size w1 w2) : Below w.heap.size w w2 := h.trans (k.mono h.size)
theorem rprice_bad {S : Nat → Prop} {b : Nat} {its : List It} {L : List Pz} {w : World} (h : RbW S b its L w) (item day y : Int) (hy : priceE its.length item day = y) (hne : y ≠ 0) :
    Calls Try.prog 41 #[.pointer (some ⟨b, 0, none⟩), .int .i64 item, .int .i64 day] w fun e w' => e = .returned (.tuple #[.int .i64 0, .int .i64 y]) ∧ Below w.heap.size w w' := by
  obtain ⟨I, cI, A, c, h⟩ := h
  have c0 := h.c0
  clear h
  unfold priceE inI at hy
  generalize its.length = k at *
  by_cases h1 : item < 0
  · rw [decide_eq_false (show ¬ 0 ≤ item by omega), Bool.false_and, if_neg (by simp)] at hy
    subst hy
    go_enter Try.func41, Try.ntmps41
    go_wp2_with fail
    go_ret2
    exact ⟨rfl, Below.refl _ _⟩
  rw [decide_eq_true (show 0 ≤ item by omega), Bool.true_and] at hy
  by_cases h2 : item < (k : Int)
  · rw [decide_eq_true h2, if_pos rfl] at hy
    have h3 : ¬ (k : Int) ≤ item := by omega
    by_cases d1 : day < 0
    · rw [if_pos d1] at hy
      subst hy
      go_enter Try.func41, Try.ntmps41
      go_wp2_with fail
      go_ret2
      exact ⟨rfl, Below.refl _ _⟩
    · rw [if_neg d1] at hy
      exact absurd hy.symm hne
  · rw [decide_eq_false h2, if_neg (by simp)] at hy
    subst hy
    have h3 : (k : Int) ≤ item := by omega
    go_enter Try.func41, Try.ntmps41
    go_wp2_with fail
    go_ret2
    exact ⟨rfl, Below.refl _ _⟩
set_option maxHeartbeats 2000000 in
set_option maxRecDepth 100000 in
theorem rprice_ok {S : Nat → Prop} {b : Nat} {its : List It} {L : List Pz} {w : World} (h : RbW S b its L w) (hl : L.length ≤ 1000) (i : Nat) (hi : i < its.length) (hlt : its.length ≤ 40) (day x : Int) (hd : 0 ≤ day) (hx : (rfold (itAt its i).price L (i : Int) day).2 = x) :
    Calls Try.prog 41 #[.pointer (some ⟨b, 0, none⟩), .int .i64 (i : Int), .int .i64 day] w fun e w' => e = .returned (.tuple #[.int .i64 x, .int .i64 0]) ∧ Below w.heap.size w w' := by
  obtain ⟨I, cI, A, c, h⟩ := h
  have c0 := h.c0
  have c1 := h.c1
  have HK := Lib.hid h
  obtain ⟨ai, rfl, _, _, _, i3⟩ := i_cells h.items.row hi
  obtain ⟨p0, hp0⟩ : ∃ p, (itAt its i).price = p := ⟨_, rfl⟩
  rw [hp0] at hx i3
  have HX := Lib.hid hx
  obtain ⟨k, hk⟩ : ∃ k, its.length = k := ⟨_, rfl⟩
  obtain ⟨m, hm⟩ : ∃ m, L.length = m := ⟨_, rfl⟩
  rw [hk] at c0 hi hlt
  rw [hm] at c1 hl
  have HM := Lib.hid hm
  have f0 : (0 : Int) ≤ (i : Int) := Int.natCast_nonneg _
  have f1 : (i : Int) < (k : Int) := by omega
  have f2 : ¬ (k : Int) ≤ (i : Int) := by omega
  have f3 : ¬ day < 0 := by omega
  clear h hx hk hm hp0
  go_enter Try.func41, Try.ntmps41
  go_wp2_with fail
  go_loopw [8, 9, 10] (fun o s v wr => ∃ (j : Nat) (a z : Int), o = .int .i64 z ∧ s = .int .i64 a ∧ v = .int .i64 (j : Int) ∧ j ≤ m ∧ rfold p0 (L.take j) (i : Int) day = (a, z) ∧ Below w.heap.size w wr) (fun _ _ v _ => m - (intOf v).toNat)
  case atStart => exact ⟨0, 0, p0, rfl, rfl, rfl, by omega, by simp [rfold], Below.refl _ _⟩
  case round =>
    obtain ⟨j, a, z, rfl, rfl, rfl, hj, hf, hbe⟩ := hrel
    have HF := Lib.hid hf
    have HBE := Lib.hid hbe
    have HKR := Lib.hid (HK.out.later hbe)
    have c1 : wr.cell? ⟨b, 1, none⟩ = some (.slice A m c) := cell_below' hbe c1
    clear hf hbe
    have g0 : (0 : Int) ≤ (j : Int) := Int.natCast_nonneg _
    by_cases hjm : j < m
    · have g1 : (j : Int) < (m : Int) := by omega
      obtain ⟨ad, rfl, z0, z1, z2⟩ := z_cells HKR.out.l.row (j := j) (by rw [HM.out]; exact hjm)
      have hrt := rfold_take (L := L) (k := j) (by rw [HM.out]; exact hjm) p0 (i : Int) day
      obtain ⟨p, hp⟩ : ∃ p, pzAt L j = p := ⟨_, rfl⟩
      rw [hp] at z0 z1 z2 hrt
      rw [HF.out] at hrt
      obtain ⟨p1, p2, p3⟩ := p
      dsimp only at z0 z1 z2
      unfold rstep at hrt
      dsimp only at hrt
      have HBZ := Lib.hid (HBE.out.trans ((alloc1 wr (.cells #[.int .i64 p1, .int .i64 p2, .int .i64 p3] 96)).mono HBE.out.size))
      have HRT := Lib.hid hrt
      clear hp hrt
      by_cases e1 : p1 = (i : Int)
      · have e1b : (p1 == (i : Int)) = true := by simpa using e1
        by_cases e2 : p2 ≤ day
        · by_cases e3 : a < p2
          · have HR2 := Lib.hid (show rfold p0 (L.take (j + 1)) (i : Int) day = (p2, p3) by rw [HRT.out, if_pos ⟨e1, e2, e3⟩])
            subst e1
            go_wp2_with fail
            go_roundw
            case rel => exact ⟨j + 1, p2, p3, rfl, rfl, by go_num, by omega, HR2.out, HBZ.out⟩
            case measure => simp only [intOf]; omega
          · have HR2 := Lib.hid (show rfold p0 (L.take (j + 1)) (i : Int) day = (a, z) by rw [HRT.out, if_neg (fun h => e3 h.2.2)])
            subst e1
            go_wp2_with fail
            go_roundw
            case rel => exact ⟨j + 1, a, z, rfl, rfl, by go_num, by omega, HR2.out, HBZ.out⟩
            case measure => simp only [intOf]; omega
        · have HR2 := Lib.hid (show rfold p0 (L.take (j + 1)) (i : Int) day = (a, z) by rw [HRT.out, if_neg (fun h => e2 h.2.1)])
          subst e1
          go_wp2_with fail
          go_roundw
          case rel => exact ⟨j + 1, a, z, rfl, rfl, by go_num, by omega, HR2.out, HBZ.out⟩
          case measure => simp only [intOf]; omega
      · have e1b : (p1 == (i : Int)) = false := by simpa using e1
        have HR2 := Lib.hid (show rfold p0 (L.take (j + 1)) (i : Int) day = (a, z) by rw [HRT.out, if_neg (fun h => e1 h.1)])
        go_wp2_with fail
        go_roundw
        case rel => exact ⟨j + 1, a, z, rfl, rfl, by go_num, by omega, HR2.out, HBZ.out⟩
        case measure => simp only [intOf]; omega
    · obtain rfl : j = m := by omega
      have hz : z = x := by
        have h1 := HF.out
        rw [List.take_of_length_le (by rw [HM.out]; exact Nat.le_refl _)] at h1
        rw [← HX.out, h1]
      subst hz
      go_wp2_with fail
      go_ret2
      exact ⟨rfl, HBE.out⟩
theorem rprice_any {S : Nat → Prop} {b : Nat} {its : List It} {L : List Pz} {w : World} (h : RbW S b its L w) (hl : L.length ≤ 1000) (hlt : its.length ≤ 40) (item day x y : Int) (hx : rpriceN its L item day = x ∧ priceE its.length item day = y) :
    Calls Try.prog 41 #[.pointer (some ⟨b, 0, none⟩), .int .i64 item, .int .i64 day] w fun e w' => e = .returned (.tuple #[.int .i64 x, .int .i64 y]) ∧ Below w.heap.size w w' := by
  obtain ⟨hx, hy⟩ := hx
  unfold rpriceN at hx
  by_cases h0 : y = 0
  · subst h0
    rw [if_pos hy] at hx
    obtain ⟨h1, h2⟩ := priceE_in hy
    obtain ⟨i, rfl, hi⟩ := inI_nat h1
    rw [Int.toNat_natCast] at hx
    exact rprice_ok h hl i hi hlt day x h2 hx
  · rw [if_neg (by rw [hy]; exact h0)] at hx
    subst hx
    exact rprice_bad h item day y hy h0
theorem may_iff {n : Nat} {x : Ln} : mayI n x = true ↔ 0 ≤ x.item ∧ x.item < (n : Int) ∧ 1 ≤ x.units ∧ 0 ≤ x.charge ∧ 1 ≤ x.first ∧ x.first ≤ x.last ∧ x.last ≤ 1000000 := by
  unfold mayI inI
  simp only [Bool.and_eq_true, decide_eq_true_eq]
  constructor
  · rintro ⟨⟨a, b⟩, c, d, e, f, g⟩; exact ⟨a, b, c, d, e, f, g⟩
  · rintro ⟨a, b, c, d, e, f, g⟩; exact ⟨⟨a, b⟩, c, d, e, f, g⟩
set_option maxHeartbeats 2000000 in
set_option maxRecDepth 100000 in
theorem rmay_any {S : Nat → Prop} {b : Nat} {its : List It} {L : List Pz} {w : World} (h : RbW S b its L w) (x : Ln) (r : Bool) (hr : mayI its.length x = r) :
    Calls Try.prog 40 #[.pointer (some ⟨b, 0, none⟩), x.val] w fun e w' => e = .returned (.bool r) ∧ Below w.heap.size w w' := by
  obtain ⟨i, u, c, f, l⟩ := x
  dsimp only [Ln.val] at hr ⊢
  have hbz := alloc1 w (.cells #[.int .i64 i, .int .i64 u, .int .i64 c, .int .i64 f, .int .i64 l] 45)
  obtain ⟨I, cI, A, cA, h⟩ := h
  have b0 := (h.later hbz).c0
  have hbk := Blk.new w 45 #[.int .i64 i, .int .i64 u, .int .i64 c, .int .i64 f, .int .i64 l]
  have z0 : (w.alloc (.cells #[.int .i64 i, .int .i64 u, .int .i64 c, .int .i64 f, .int .i64 l] 45)).cell? ⟨w.heap.size, 0, none⟩ = some (.int .i64 i) := hbk.cell 0
  have z1 : (w.alloc (.cells #[.int .i64 i, .int .i64 u, .int .i64 c, .int .i64 f, .int .i64 l] 45)).cell? ⟨w.heap.size, 1, none⟩ = some (.int .i64 u) := hbk.cell 1
  have z2 : (w.alloc (.cells #[.int .i64 i, .int .i64 u, .int .i64 c, .int .i64 f, .int .i64 l] 45)).cell? ⟨w.heap.size, 2, none⟩ = some (.int .i64 c) := hbk.cell 2
  have z3 : (w.alloc (.cells #[.int .i64 i, .int .i64 u, .int .i64 c, .int .i64 f, .int .i64 l] 45)).cell? ⟨w.heap.size, 3, none⟩ = some (.int .i64 f) := hbk.cell 3
  have z4 : (w.alloc (.cells #[.int .i64 i, .int .i64 u, .int .i64 c, .int .i64 f, .int .i64 l] 45)).cell? ⟨w.heap.size, 4, none⟩ = some (.int .i64 l) := hbk.cell 4
  have HBZ := Lib.hid hbz
  clear h hbk hbz
  generalize its.length = n at *
  by_cases d0 : i < 0
  · have hb1 : false = r := by rw [← hr]; symm; rw [Bool.eq_false_iff, Ne, may_iff]; simp only; omega
    subst hb1
    clear hr
    have e0 : decide (i < 0) = true := by simp; omega
    go_enter Try.func40, Try.ntmps40
    go_wp2_with fail
    generalize hwz : w.alloc (Obj.cells #[.int .i64 i, .int .i64 u, .int .i64 c, .int .i64 f, .int .i64 l] 45) = wz at z0 z1 z2 z3 z4 b0 HBZ ⊢
    generalize w.heap.size = q at z0 z1 z2 z3 z4 ⊢
    go_quiet (fail)
    go_wp2_with fail
    go_ret
    exact ⟨rfl, below_in HBZ.out (Quiet.below ⟨_, rfl⟩)⟩
  by_cases d1 : (n : Int) ≤ i
  · have hb1 : false = r := by rw [← hr]; symm; rw [Bool.eq_false_iff, Ne, may_iff]; simp only; omega
    subst hb1
    clear hr
    have e0 : decide (i < 0) = false := by simp; omega
    have e1 : decide ((n : Int) ≤ i) = true := by simp; omega
    go_enter Try.func40, Try.ntmps40
    go_wp2_with fail
    generalize hwz : w.alloc (Obj.cells #[.int .i64 i, .int .i64 u, .int .i64 c, .int .i64 f, .int .i64 l] 45) = wz at z0 z1 z2 z3 z4 b0 HBZ ⊢
    generalize w.heap.size = q at z0 z1 z2 z3 z4 ⊢
    go_quiet (fail)
    go_wp2_with fail
    go_ret
    exact ⟨rfl, below_in HBZ.out (Quiet.below ⟨_, rfl⟩)⟩
  by_cases d2 : u < 1
  · have hb1 : false = r := by rw [← hr]; symm; rw [Bool.eq_false_iff, Ne, may_iff]; simp only; omega
    subst hb1
    clear hr
    have e0 : decide (i < 0) = false := by simp; omega
    have e1 : decide ((n : Int) ≤ i) = false := by simp; omega
    have e2 : decide (u < 1) = true := by simp; omega
    go_enter Try.func40, Try.ntmps40
    go_wp2_with fail
    generalize hwz : w.alloc (Obj.cells #[.int .i64 i, .int .i64 u, .int .i64 c, .int .i64 f, .int .i64 l] 45) = wz at z0 z1 z2 z3 z4 b0 HBZ ⊢
    generalize w.heap.size = q at z0 z1 z2 z3 z4 ⊢
    go_quiet (fail)
    go_wp2_with fail
    go_ret
    exact ⟨rfl, below_in HBZ.out (Quiet.below ⟨_, rfl⟩)⟩
  by_cases d3 : c < 0
  · have hb1 : false = r := by rw [← hr]; symm; rw [Bool.eq_false_iff, Ne, may_iff]; simp only; omega
    subst hb1
    clear hr
    have e0 : decide (i < 0) = false := by simp; omega
    have e1 : decide ((n : Int) ≤ i) = false := by simp; omega
    have e2 : decide (u < 1) = false := by simp; omega
    have e3 : decide (c < 0) = true := by simp; omega
    go_enter Try.func40, Try.ntmps40
    go_wp2_with fail
    generalize hwz : w.alloc (Obj.cells #[.int .i64 i, .int .i64 u, .int .i64 c, .int .i64 f, .int .i64 l] 45) = wz at z0 z1 z2 z3 z4 b0 HBZ ⊢
    generalize w.heap.size = q at z0 z1 z2 z3 z4 ⊢
    go_quiet (fail)
    go_wp2_with fail
    go_ret
    exact ⟨rfl, below_in HBZ.out (Quiet.below ⟨_, rfl⟩)⟩
  by_cases d4 : f < 1
  · have hb1 : false = r := by rw [← hr]; symm; rw [Bool.eq_false_iff, Ne, may_iff]; simp only; omega
    subst hb1
    clear hr
    have e0 : decide (i < 0) = false := by simp; omega
    have e1 : decide ((n : Int) ≤ i) = false := by simp; omega
    have e2 : decide (u < 1) = false := by simp; omega
    have e3 : decide (c < 0) = false := by simp; omega
    have h1 : ¬ 1 ≤ f := by omega
    go_enter Try.func40, Try.ntmps40
    go_wp2_with fail
    generalize hwz : w.alloc (Obj.cells #[.int .i64 i, .int .i64 u, .int .i64 c, .int .i64 f, .int .i64 l] 45) = wz at z0 z1 z2 z3 z4 b0 HBZ ⊢
    generalize w.heap.size = q at z0 z1 z2 z3 z4 ⊢
    go_quiet (fail)
    go_wp2_with fail
    go_ret
    exact ⟨rfl, below_in HBZ.out (Quiet.below ⟨_, rfl⟩)⟩
  by_cases d5 : l < f
  · have hb1 : false = r := by rw [← hr]; symm; rw [Bool.eq_false_iff, Ne, may_iff]; simp only; omega
    subst hb1
    clear hr
    have e0 : decide (i < 0) = false := by simp; omega
    have e1 : decide ((n : Int) ≤ i) = false := by simp; omega
    have e2 : decide (u < 1) = false := by simp; omega
    have e3 : decide (c < 0) = false := by simp; omega
    have g1 : decide (1 ≤ f) = true := by simp; omega
    have g2 : decide (f ≤ l) = false := by simp; omega
    have h1 : 1 ≤ f := by omega
    have h2 : ¬ f ≤ l := by omega
    go_enter Try.func40, Try.ntmps40
    go_wp2_with fail
    generalize hwz : w.alloc (Obj.cells #[.int .i64 i, .int .i64 u, .int .i64 c, .int .i64 f, .int .i64 l] 45) = wz at z0 z1 z2 z3 z4 b0 HBZ ⊢
    generalize w.heap.size = q at z0 z1 z2 z3 z4 ⊢
    go_quiet (fail)
    go_wp2_with fail
    go_ret
    exact ⟨rfl, below_in HBZ.out (Quiet.below ⟨_, rfl⟩)⟩
  by_cases d6 : 1000000 < l
  · have hb1 : false = r := by rw [← hr]; symm; rw [Bool.eq_false_iff, Ne, may_iff]; simp only; omega
    subst hb1
    clear hr
    have e0 : decide (i < 0) = false := by simp; omega
    have e1 : decide ((n : Int) ≤ i) = false := by simp; omega
    have e2 : decide (u < 1) = false := by simp; omega
    have e3 : decide (c < 0) = false := by simp; omega
    have h1 : 1 ≤ f := by omega
    have h2 : f ≤ l := by omega
    have e4 : decide (l ≤ 1000000) = false := by simp; omega
    go_enter Try.func40, Try.ntmps40
    go_wp2_with fail
    generalize hwz : w.alloc (Obj.cells #[.int .i64 i, .int .i64 u, .int .i64 c, .int .i64 f, .int .i64 l] 45) = wz at z0 z1 z2 z3 z4 b0 HBZ ⊢
    generalize w.heap.size = q at z0 z1 z2 z3 z4 ⊢
    go_quiet (fail)
    go_wp2_with fail
    go_ret
    exact ⟨rfl, below_in HBZ.out (Quiet.below ⟨_, rfl⟩)⟩
  have hb1 : true = r := by rw [← hr]; symm; rw [may_iff]; simp only; omega
  subst hb1
  clear hr
  have e0 : decide (i < 0) = false := by simp; omega
  have e1 : decide ((n : Int) ≤ i) = false := by simp; omega
  have e2 : decide (u < 1) = false := by simp; omega
  have e3 : decide (c < 0) = false := by simp; omega
  have h1 : 1 ≤ f := by omega
  have h2 : f ≤ l := by omega
  have e4 : decide (l ≤ 1000000) = true := by simp; omega
  go_enter Try.func40, Try.ntmps40
  go_wp2_with fail
  generalize hwz : w.alloc (Obj.cells #[.int .i64 i, .int .i64 u, .int .i64 c, .int .i64 f, .int .i64 l] 45) = wz at z0 z1 z2 z3 z4 b0 HBZ ⊢
  generalize w.heap.size = q at z0 z1 z2 z3 z4 ⊢
  go_quiet (fail)
  go_wp2_with fail
  go_ret
  exact ⟨rfl, below_in HBZ.out (Quiet.below ⟨_, rfl⟩)⟩
end
end Go.Proofs.Ytbdhbongaikphaa.BK
