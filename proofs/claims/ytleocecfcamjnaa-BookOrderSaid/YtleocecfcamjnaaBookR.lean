/- The reference's book in memory; the walk of its New. -/
import Derived.Test.YtleocecfcamjnaaBookMath3
namespace Go.Proofs.Ytleocecfcamjnaa.BK
open Go.RowKit Go.Proofs.Ytleocecfcamjnaa.Cents
set_option linter.unusedVariables false
set_option linter.unusedSimpArgs false

/-- The reference's book at block b, all of whose blocks are of S. -/
structure RbI (S : Nat → Prop) (b : Nat) (its : List It) (L : List Pz) (I : Option Addr) (cI : Nat) (A : Option Addr) (c : Nat) (w : World) : Prop where
  lt : ∀ k, S k → k < w.heap.size
  bx : Blk w b 63 #[.slice I its.length cI, .slice A L.length c]
  sb : S b
  items : RowF w (fun q => S q ∧ q ≠ b) I (icells its)
  l : RowF w (fun q => S q ∧ q ≠ b) A (zcells L)
def RbW (S : Nat → Prop) (b : Nat) (its : List It) (L : List Pz) (w : World) : Prop := ∃ I cI A c, RbI S b its L I cI A c w
section
variable {S : Nat → Prop} {b : Nat} {its : List It} {L : List Pz} {I : Option Addr} {cI : Nat} {A : Option Addr} {c : Nat} {w w' : World}
theorem RbI.keep (h : RbI S b its L I cI A c w) (hk : ∀ k, S k → w'.heap[k]? = w.heap[k]?) (hs : w.heap.size ≤ w'.heap.size) : RbI S b its L I cI A c w' where
  lt := fun k hS => Nat.lt_of_lt_of_le (h.lt k hS) hs
  bx := (hk b h.sb).trans h.bx
  sb := h.sb
  items := h.items.keep fun p hp u hu => cell_keep (hk _ hp.1) hu
  l := h.l.keep fun p hp u hu => cell_keep (hk _ hp.1) hu
theorem RbI.later (h : RbI S b its L I cI A c w) (hb : Below w.heap.size w w') : RbI S b its L I cI A c w' := h.keep (fun k hS => hb.block k (h.lt k hS)) hb.size
theorem RbW.later (h : RbW S b its L w) (hb : Below w.heap.size w w') : RbW S b its L w' := by
  obtain ⟨I, cI, A, c, h⟩ := h
  exact ⟨I, cI, A, c, h.later hb⟩
theorem RbW.fr {T : Nat → Prop} (h : RbW S b its L w) (hf : Fr T w w') (hd : ∀ k, S k → ¬ T k) : RbW S b its L w' := by
  obtain ⟨I, cI, A, c, h⟩ := h
  exact ⟨I, cI, A, c, h.keep (fun k hS => hf.block k (h.lt k hS) (hd k hS)) hf.size⟩
theorem RbI.c0 (h : RbI S b its L I cI A c w) : w.cell? ⟨b, 0, none⟩ = some (.slice I its.length cI) := h.bx.cell 0
theorem RbI.c1 (h : RbI S b its L I cI A c w) : w.cell? ⟨b, 1, none⟩ = some (.slice A L.length c) := h.bx.cell 1
end
def RNewRet (its : List It) (w : World) (e : Ending) (w' : World) : Prop := ∃ S b, e = .returned (.tuple #[.pointer (some ⟨b, 0, none⟩), .int .i64 0]) ∧ RbW S b its [] w' ∧ Below w.heap.size w w' ∧ ∀ k, S k → w.heap.size ≤ k
theorem rnew_done {w w2 w3 : World} {its : List It} {B : Option Addr} {n c q : Nat} (hq : w2.heap.size = q) (hn : its.length = n) (hb : Below w.heap.size w w2) (hr : Row w2 w.heap.size B (icells its)) (h3 : w3 = w2.alloc (.cells #[.slice B n c, .slice none 0 0] 63)) :
    RNewRet its w (.returned (.tuple #[.pointer (some ⟨q, 0, none⟩), .int .i64 0])) w3 := by
  subst h3 hn hq
  refine ⟨fun q => w.heap.size ≤ q ∧ q < w2.heap.size + 1, w2.heap.size, rfl, ⟨B, c, none, 0, fun k hk => by simpa using hk.2, Blk.new _ _ _, ⟨hb.size, by omega⟩, ?_, RowF.none_⟩, hb.alloc hb.size _, fun k hk => hk.1⟩
  exact (hr.rowF (F := fun q => (w.heap.size ≤ q ∧ q < w2.heap.size + 1) ∧ q ≠ w2.heap.size) fun q hq hl => ⟨⟨hq, by omega⟩, by omega⟩).below (alloc1 _ _)
theorem rnew_bad (A : Option Addr) (its : List It) (c : Nat) (w : World) (h : 40 < its.length) (hl : its.length ≤ 1000000) :
    Calls Try.prog 9 #[.slice A its.length c] w fun e w' => e = .returned (.tuple #[.pointer none, .int .i64 4]) ∧ Below w.heap.size w w' := by
  generalize its.length = n at *
  have h2 : decide ((40 : Int) < (n : Int)) = true := by simp; omega
  clear h
  go_enter Try.func9, Try.ntmps9
  go_wp2_with fail
  go_ret2
  exact ⟨rfl, Below.refl _ _⟩
/-- What the reference's New answers. -/
def RNewAny (its : List It) (w : World) (e : Ending) (w' : World) : Prop := (newE its = 0 ∧ RNewRet its w e w') ∨ (newE its ≠ 0 ∧ e = .returned (.tuple #[.pointer none, .int .i64 (newE its)]) ∧ Below w.heap.size w w')
set_option maxHeartbeats 2000000 in
set_option maxRecDepth 100000 in
theorem rnew_any (A : Option Addr) (its : List It) (c : Nat) (w : World) (hr : Row w 0 A (icells its)) (hl : its.length ≤ 1000000) :
    Calls Try.prog 9 #[.slice A its.length c] w (RNewAny its w) := by
  by_cases h40 : 40 < its.length
  · refine (rnew_bad A its c w h40 hl).mono ?_
    rintro e w' ⟨rfl, hb⟩
    have hE : newE its = 4 := by unfold newE; rw [if_pos h40]
    exact .inr ⟨by rw [hE]; decide, by rw [hE], hb⟩
  have HR := Lib.hid hr
  have HE := Lib.hid (show newE its = if anyW its = true then 1 else 0 by unfold newE; rw [if_neg h40])
  obtain ⟨n, hn⟩ : ∃ n, its.length = n := ⟨_, rfl⟩
  have HN := Lib.hid hn
  rw [hn] at h40 hl ⊢
  have h2 : decide ((40 : Int) < (n : Int)) = false := by simp; omega
  clear hr hn
  go_enter Try.func9, Try.ntmps9
  go_wp2_with fail
  go_loopw [4] (fun v wr => ∃ (j : Nat), v = .int .i64 (j : Int) ∧ j ≤ n ∧ anyW (its.take j) = false ∧ Below w.heap.size w wr) (fun v _ => n - (intOf v).toNat)
  case atStart => exact ⟨0, rfl, by omega, by simp [anyW], Below.refl _ _⟩
  case round =>
    obtain ⟨j, rfl, hj, hany, hbe⟩ := hrel
    have HBE := Lib.hid hbe
    have g0 : (0 : Int) ≤ (j : Int) := Int.natCast_nonneg _
    by_cases hjn : j < n
    · have g1 : (j : Int) < (n : Int) := by omega
      obtain ⟨ad, rfl, c0, c1, c2, c3⟩ := i_cells (HR.out.below hbe) (j := j) (by rw [HN.out]; exact hjn)
      have hta := take_anyw (xs := its) (j := j) (by rw [HN.out]; exact hjn)
      have hmem := itAt_mem (xs := its) (j := j) (by rw [HN.out]; exact hjn)
      obtain ⟨x, hx⟩ : ∃ x, itAt its j = x := ⟨_, rfl⟩
      rw [hx] at c0 c1 c2 c3 hta hmem
      rw [hany, Bool.false_or] at hta
      obtain ⟨a, g, m, p⟩ := x
      dsimp only at c0 c1 c2 c3
      have HBZ := Lib.hid (HBE.out.trans ((alloc1 wr (.cells #[.int .i64 a, .int .i64 g, .int .i64 m, .int .i64 p] 40)).mono HBE.out.size))
      have hbad : wrongI ⟨a, g, m, p⟩ = true → anyW its = true := fun h => by
        unfold anyW
        rw [List.any_eq_true]
        exact ⟨_, hmem, h⟩
      have HBAD := Lib.hid (fun h => show newE its = 1 by rw [HE.out, if_pos (hbad h)])
      have HTA := Lib.hid hta
      clear hany hbe hta hmem hx hbad
      by_cases d0 : a < 0
      · have hE1 := HBAD.out (by simp [wrongI, d0])
        go_wp2_with fail
        go_ret2
        exact .inr ⟨by rw [hE1]; decide, by rw [hE1]; rfl, HBZ.out⟩
      by_cases d1 : 2 < a
      · have hE1 := HBAD.out (by simp [wrongI, d1])
        go_wp2_with fail
        go_ret2
        exact .inr ⟨by rw [hE1]; decide, by rw [hE1]; rfl, HBZ.out⟩
      by_cases d2 : g < 0
      · have hE1 := HBAD.out (by simp [wrongI, d2])
        go_wp2_with fail
        go_ret2
        exact .inr ⟨by rw [hE1]; decide, by rw [hE1]; rfl, HBZ.out⟩
      by_cases d3 : 99 < g
      · have hE1 := HBAD.out (by simp [wrongI, d3])
        go_wp2_with fail
        go_ret2
        exact .inr ⟨by rw [hE1]; decide, by rw [hE1]; rfl, HBZ.out⟩
      by_cases d4 : m < 0
      · have hE1 := HBAD.out (by simp [wrongI, d4])
        go_wp2_with fail
        go_ret2
        exact .inr ⟨by rw [hE1]; decide, by rw [hE1]; rfl, HBZ.out⟩
      by_cases d5 : 3 < m
      · have hE1 := HBAD.out (by simp [wrongI, d5])
        go_wp2_with fail
        go_ret2
        exact .inr ⟨by rw [hE1]; decide, by rw [hE1]; rfl, HBZ.out⟩
      by_cases d6 : p < 1
      · have hE1 := HBAD.out (by simp [wrongI, d6])
        go_wp2_with fail
        go_ret2
        exact .inr ⟨by rw [hE1]; decide, by rw [hE1]; rfl, HBZ.out⟩
      have HT2 := Lib.hid (show anyW (its.take (j + 1)) = false by rw [HTA.out]; simp [wrongI, d0, d1, d2, d3, d4, d5, d6])
      go_wp2_with fail
      go_roundw
      case rel => exact ⟨j + 1, by go_num, by omega, HT2.out, HBZ.out⟩
      case measure => simp only [intOf]; omega
    · obtain rfl : j = n := by omega
      rw [List.take_of_length_le (by rw [HN.out]; omega)] at hany
      have HE0 := Lib.hid (show newE its = 0 by rw [HE.out, hany]; simp)
      clear hany hbe
      by_cases h0 : its = []
      · subst h0
        have hj0 : j = 0 := by rw [← HN.out]; rfl
        subst hj0
        go_wp2_with (at_builtin; refine wpList_app0 E_it rfl (.tmp 52) (.tmp 53) rfl rfl rfl (Nat.le_refl 0) ?_)
        go_ret2
        exact .inl ⟨HE0.out, rnew_done (B := some ⟨wr.heap.size, 0, none⟩) (by simp) HN.out (HBE.out.alloc HBE.out.size (.cells #[] 40)) (fun h => absurd h (by simp [icells])) rfl⟩
      · have hpos : 0 < (icells its).length := by rw [icells_len]; have := List.length_pos_iff.2 h0; omega
        obtain ⟨ad, rfl, _, hc⟩ := (HR.out.below HBE.out) hpos
        have HC := Lib.hid (fun j u h => cell_below' (alloc1 wr (.cells #[] 40)) (hc j u h))
        have HL := Lib.hid (icells_len its)
        have HO := Lib.hid (own_empty wr 40 4 wr.heap.size (Nat.le_refl _))
        have h1 : 0 < j := by rw [← HN.out]; exact List.length_pos_iff.2 h0
        rw [HN.out] at HL
        have hb1 : (0 + j) * 32 ≤ 140737488355328 := by omega
        have hb2 : 0 + j ≤ maxLen := by unfold maxLen; omega
        clear h0 hpos hc
        go_wp2_with (at_builtin; refine wpList_app E_it rfl (.tmp 52) (.tmp 53) rfl rfl HO.out ad j c (icells its) rfl HL.out HC.out (icells_one _) hb1 hb2 (by simp) h1 ?_; intro g cap w2 hown hg hat; have HO2 := Lib.hid hown; have HB2 := Lib.hid ((HBE.out.alloc HBE.out.size (.cells #[] 40)).grown hg (Nat.le_trans HBE.out.size (by simp)) (fun k hk => by have := (HO.out.lt k hk).1; have := HBE.out.size; omega)); clear hown hg hat)
        go_ret2
        have hown := HO2.out
        rw [Nat.zero_add, List.nil_append] at hown
        exact .inl ⟨HE0.out, rnew_done (B := some ⟨g, 0, none⟩) rfl HN.out HB2.out ((Row.of_own hown (by decide)).weak HBE.out.size) rfl⟩
end Go.Proofs.Ytleocecfcamjnaa.BK
