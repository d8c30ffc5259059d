/- The walks of net: change, Bill, Earn. -/
import Derived.Test.YtdapcahphaldjaaNetA
namespace Go.Proofs.Ytdapcahphaldjaa.Net
open Go.RowKit Go.Proofs.Ytdapcahphaldjaa.Cents
set_option linter.unusedVariables false
set_option linter.unusedSimpArgs false

theorem own_weak {w : World} {base base' e size n : Nat} {v : Value} {xs : List Value} (h : w.ownsRow base e size v n xs) (hb : base' ≤ base) : w.ownsRow base' e size v n xs := by
  refine ⟨h.1, ?_⟩
  rcases h.2 with hn | ⟨g, cap, cur, rfl, hb2, rest⟩
  · exact .inl hn
  · exact .inr ⟨g, cap, cur, rfl, by omega, rest⟩

/-- Postings, or why there are none. -/
def RetPs (w : World) (ps : List Post) (err : Int) (e : Ending) (w' : World) : Prop :=
  ∃ A c, e = .returned (.tuple #[.slice A ps.length c, .int .i64 err]) ∧ w'.ownsRow w.heap.size 56 3 (.slice A ps.length c) ps.length (cells ps) ∧ Below w.heap.size w w'
theorem RetPs.none_ {w w' : World} {err : Int} (hb : Below w.heap.size w w') : RetPs w [] err (.returned (.tuple #[.slice none 0 0, .int .i64 err])) w' := ⟨none, 0, rfl, World.ownsRow_nil _ _ _ _, hb⟩

theorem fine_is (b r : Int) (w : World) (x : Bool) (hx : decide (0 ≤ b ∧ 0 ≤ r) = x) :
    Calls Try.prog 62 #[.agg #[.int .i64 b, .int .i64 r]] w fun e w' => e = .returned (.bool x) ∧ Below w.heap.size w w' := by
  by_cases h1 : 0 ≤ b
  · by_cases h2 : 0 ≤ r
    · obtain rfl : x = true := by rw [← hx]; simp [h1, h2]
      go_enter Try.func62, Try.ntmps62
      go_wp2
      go_ret
      exact ⟨rfl, (Below.refl _ _).alloc (Nat.le_refl _) _⟩
    · obtain rfl : x = false := by rw [← hx]; simp [h2]
      go_enter Try.func62, Try.ntmps62
      go_wp2
      go_ret
      exact ⟨rfl, (Below.refl _ _).alloc (Nat.le_refl _) _⟩
  · obtain rfl : x = false := by rw [← hx]; simp [h1]
    go_enter Try.func62, Try.ntmps62
    go_wp2
    go_ret
    exact ⟨rfl, (Below.refl _ _).alloc (Nat.le_refl _) _⟩

section
variable (ct fb fr mb mr : Int) (w : World)
set_option maxHeartbeats 2000000 in
set_option maxRecDepth 100000 in
theorem change_ct (h : ct < 0 ∨ 40 ≤ ct) : Calls Try.prog 51 #[.int .i64 ct, .agg #[.int .i64 fb, .int .i64 fr], .int .i64 mb, .int .i64 mr] w (RetPs w [] 1) := by
  by_cases c : ct < 0
  · clear h
    go_enter Try.func51, Try.ntmps51
    go_wp2_with fail
    go_ret2
    exact RetPs.none_ ((Below.refl _ _).alloc (Nat.le_refl _) _)
  · have d : 40 ≤ ct := by omega
    clear h
    go_enter Try.func51, Try.ntmps51
    go_wp2_with fail
    go_ret2
    exact RetPs.none_ ((Below.refl _ _).alloc (Nat.le_refl _) _)
set_option maxHeartbeats 2000000 in
set_option maxRecDepth 100000 in
theorem change_from (h0 : 0 ≤ ct) (h1 : ct < 40) (h : decide (0 ≤ fb ∧ 0 ≤ fr) = false) : Calls Try.prog 51 #[.int .i64 ct, .agg #[.int .i64 fb, .int .i64 fr], .int .i64 mb, .int .i64 mr] w (RetPs w [] 1) := by
  have H := Lib.hid h
  clear h
  go_enter Try.func51, Try.ntmps51
  go_wp2_with fail
  refine (fine_is _ _ _ false H.out).mono ?_
  rintro e w1 ⟨rfl, hb1⟩
  go_wp2_with fail
  go_ret2
  have b0 : Below w.heap.size w (w.alloc (.cells #[.int .i64 fb, .int .i64 fr] 83)) := (Below.refl _ _).alloc (Nat.le_refl _) _
  exact RetPs.none_ (b0.trans (hb1.mono b0.size))
set_option maxHeartbeats 2000000 in
set_option maxRecDepth 100000 in
theorem change_over (h0 : 0 ≤ ct) (h1 : ct < 40) (h : decide (0 ≤ fb ∧ 0 ≤ fr) = true) (i1 : I64 fb) (i2 : I64 fr) (i3 : I64 mb) (i4 : I64 mr) (ho : ¬ I64 (fb + mb) ∨ ¬ I64 (fr + mr)) :
    Calls Try.prog 51 #[.int .i64 ct, .agg #[.int .i64 fb, .int .i64 fr], .int .i64 mb, .int .i64 mr] w (RetPs w [] 3) := by
  have H := Lib.hid h
  have I1 := Lib.hid i1
  have I2 := Lib.hid i2
  have I3 := Lib.hid i3
  have I4 := Lib.hid i4
  have b0 : Below w.heap.size w (w.alloc (.cells #[.int .i64 fb, .int .i64 fr] 83)) := (Below.refl _ _).alloc (Nat.le_refl _) _
  have xa := Blk.new w 83 #[.int .i64 fb, .int .i64 fr]
  have B0 := Lib.hid b0
  have XA := Lib.hid xa
  clear h i1 i2 i3 i4 b0 xa
  by_cases c : I64 (fb + mb)
  · have d : ¬ I64 (fr + mr) := by rcases ho with h | h; exact absurd c h; exact h
    have C := Lib.hid c
    have D := Lib.hid d
    clear ho c d
    go_enter Try.func51, Try.ntmps51
    go_wp2_with fail
    refine (fine_is _ _ _ true H.out).mono ?_
    rintro e w1 ⟨rfl, hb1⟩
    have x1 := XA.out.below hb1 XA.out.lt
    have c0 : w1.cell? ⟨w.heap.size, 0, none⟩ = some (.int .i64 fb) := x1.cell 0
    have c1 : w1.cell? ⟨w.heap.size, 1, none⟩ = some (.int .i64 fr) := x1.cell 1
    have BB := Lib.hid (B0.out.trans (hb1.mono B0.out.size))
    clear hb1 x1
    go_wp2_with fail
    refine (add_yes _ _ _ I1.out I3.out C.out).mono ?_
    rintro e w2 ⟨rfl, rfl⟩
    go_wp2_with fail
    refine (add_no _ _ _ I2.out I4.out D.out).mono ?_
    rintro e w2 ⟨rfl, rfl⟩
    go_wp2_with fail
    go_ret2
    exact RetPs.none_ (BB.out.alloc BB.out.size _)
  · obtain ⟨x, y, hxy⟩ : ∃ x y, addV fr mr = .tuple #[.int .i64 x, .int .i64 y] := by unfold addV; split <;> exact ⟨_, _, rfl⟩
    have HXY := Lib.hid hxy
    have C := Lib.hid c
    clear ho c hxy
    go_enter Try.func51, Try.ntmps51
    go_wp2_with fail
    refine (fine_is _ _ _ true H.out).mono ?_
    rintro e w1 ⟨rfl, hb1⟩
    have x1 := XA.out.below hb1 XA.out.lt
    have c0 : w1.cell? ⟨w.heap.size, 0, none⟩ = some (.int .i64 fb) := x1.cell 0
    have c1 : w1.cell? ⟨w.heap.size, 1, none⟩ = some (.int .i64 fr) := x1.cell 1
    have BB := Lib.hid (B0.out.trans (hb1.mono B0.out.size))
    clear hb1 x1
    go_wp2_with fail
    refine (add_no _ _ _ I1.out I3.out C.out).mono ?_
    rintro e w2 ⟨rfl, rfl⟩
    go_wp2_with fail
    refine (add_any _ _ _ I2.out I4.out).mono ?_
    rintro e w2 ⟨he, rfl⟩
    rw [HXY.out] at he
    subst he
    go_wp2_with fail
    go_ret2
    exact RetPs.none_ (BB.out.alloc BB.out.size _)
set_option maxHeartbeats 2000000 in
set_option maxRecDepth 100000 in
theorem change_to (h0 : 0 ≤ ct) (h1 : ct < 40) (h : decide (0 ≤ fb ∧ 0 ≤ fr) = true) (i1 : I64 fb) (i2 : I64 fr) (i3 : I64 mb) (i4 : I64 mr) (c : I64 (fb + mb)) (d : I64 (fr + mr)) (hf : decide (0 ≤ fb + mb ∧ 0 ≤ fr + mr) = false) :
    Calls Try.prog 51 #[.int .i64 ct, .agg #[.int .i64 fb, .int .i64 fr], .int .i64 mb, .int .i64 mr] w (RetPs w [] 1) := by
  have H := Lib.hid h
  have I1 := Lib.hid i1
  have I2 := Lib.hid i2
  have I3 := Lib.hid i3
  have I4 := Lib.hid i4
  have C := Lib.hid c
  have D := Lib.hid d
  have b0 : Below w.heap.size w (w.alloc (.cells #[.int .i64 fb, .int .i64 fr] 83)) := (Below.refl _ _).alloc (Nat.le_refl _) _
  have xa := Blk.new w 83 #[.int .i64 fb, .int .i64 fr]
  have B0 := Lib.hid b0
  have XA := Lib.hid xa
  have HFF := Lib.hid hf
  clear h i1 i2 i3 i4 b0 xa c d hf
  go_enter Try.func51, Try.ntmps51
  go_wp2_with fail
  refine (fine_is _ _ _ true H.out).mono ?_
  rintro e w1 ⟨rfl, hb1⟩
  have x1 := XA.out.below hb1 XA.out.lt
  have c0 : w1.cell? ⟨w.heap.size, 0, none⟩ = some (.int .i64 fb) := x1.cell 0
  have c1 : w1.cell? ⟨w.heap.size, 1, none⟩ = some (.int .i64 fr) := x1.cell 1
  have BB := Lib.hid (B0.out.trans (hb1.mono B0.out.size))
  have X1 := Lib.hid x1
  clear hb1 x1
  go_wp2_with fail
  refine (add_yes _ _ _ I1.out I3.out C.out).mono ?_
  rintro e w2 ⟨rfl, rfl⟩
  go_wp2_with fail
  refine (add_yes _ _ _ I2.out I4.out D.out).mono ?_
  rintro e w2 ⟨rfl, rfl⟩
  go_wp2_with fail
  refine (fine_is _ _ _ false HFF.out).mono ?_
  rintro e w3 ⟨rfl, hb3⟩
  have b2 := BB.out.alloc BB.out.size (.cells #[.int .i64 (fb + mb), .int .i64 (fr + mr)] 83)
  have B3 := Lib.hid (b2.trans (hb3.mono b2.size))
  clear hb3 b2
  go_wp2_with fail
  go_ret2
  exact RetPs.none_ B3.out
set_option maxHeartbeats 2000000 in
set_option maxRecDepth 100000 in
theorem change_ok (h0 : 0 ≤ ct) (h1 : ct < 40) (h : decide (0 ≤ fb ∧ 0 ≤ fr) = true) (i1 : I64 fb) (i2 : I64 fr) (i3 : I64 mb) (i4 : I64 mr) (c : I64 (fb + mb)) (d : I64 (fr + mr)) (hf : decide (0 ≤ fb + mb ∧ 0 ≤ fr + mr) = true) :
    Calls Try.prog 51 #[.int .i64 ct, .agg #[.int .i64 fb, .int .i64 fr], .int .i64 mb, .int .i64 mr] w (RetPs w (chg ct fb fr (fb + mb) (fr + mr)) 0) := by
  obtain ⟨p1, p2⟩ := of_decide_eq_true h
  obtain ⟨p3, p4⟩ := of_decide_eq_true hf
  have H := Lib.hid h
  have I1 := Lib.hid i1
  have I2 := Lib.hid i2
  have I3 := Lib.hid i3
  have I4 := Lib.hid i4
  have C := Lib.hid c
  have D := Lib.hid d
  have b0 : Below w.heap.size w (w.alloc (.cells #[.int .i64 fb, .int .i64 fr] 83)) := (Below.refl _ _).alloc (Nat.le_refl _) _
  have xa := Blk.new w 83 #[.int .i64 fb, .int .i64 fr]
  have B0 := Lib.hid b0
  have XA := Lib.hid xa
  have HFF := Lib.hid hf
  clear h i1 i2 i3 i4 b0 xa c d hf
  go_enter Try.func51, Try.ntmps51
  go_wp2_with fail
  refine (fine_is _ _ _ true H.out).mono ?_
  rintro e w1 ⟨rfl, hb1⟩
  have x1 := XA.out.below hb1 XA.out.lt
  have c0 : w1.cell? ⟨w.heap.size, 0, none⟩ = some (.int .i64 fb) := x1.cell 0
  have c1 : w1.cell? ⟨w.heap.size, 1, none⟩ = some (.int .i64 fr) := x1.cell 1
  have BB := Lib.hid (B0.out.trans (hb1.mono B0.out.size))
  have X1 := Lib.hid x1
  clear hb1 x1
  go_wp2_with fail
  refine (add_yes _ _ _ I1.out I3.out C.out).mono ?_
  rintro e w2 ⟨rfl, rfl⟩
  go_wp2_with fail
  refine (add_yes _ _ _ I2.out I4.out D.out).mono ?_
  rintro e w2 ⟨rfl, rfl⟩
  go_wp2_with fail
  refine (fine_is _ _ _ true HFF.out).mono ?_
  rintro e w3 ⟨rfl, hb3⟩
  have b2 := BB.out.alloc BB.out.size (.cells #[.int .i64 (fb + mb), .int .i64 (fr + mr)] 83)
  have xb2 : Blk (w1.alloc (.cells #[.int .i64 (fb + mb), .int .i64 (fr + mr)] 83)) w1.heap.size 83 #[.int .i64 (fb + mb), .int .i64 (fr + mr)] := Blk.new _ _ _
  have xa3 := (X1.out.alloc (.cells #[.int .i64 (fb + mb), .int .i64 (fr + mr)] 83)).below hb3 (by simp; have := X1.out.lt; omega)
  have xb3 := xb2.below hb3 xb2.lt
  have k0 : w3.cell? ⟨w.heap.size, 0, none⟩ = some (.int .i64 fb) := xa3.cell 0
  have k1 : w3.cell? ⟨w.heap.size, 1, none⟩ = some (.int .i64 fr) := xa3.cell 1
  have k2 : w3.cell? ⟨w1.heap.size, 0, none⟩ = some (.int .i64 (fb + mb)) := xb3.cell 0
  have k3 : w3.cell? ⟨w1.heap.size, 1, none⟩ = some (.int .i64 (fr + mr)) := xb3.cell 1
  have B3 := Lib.hid (b2.trans (hb3.mono b2.size))
  have hl1 : w.heap.size < w3.heap.size := xa3.lt
  have hl2 : w1.heap.size < w3.heap.size := xb3.lt
  have XA3 := Lib.hid xa3
  have XB3 := Lib.hid xb3
  clear hb3 b2 xb2 xa3 xb3
  go_wp2_with fail
  refine (turn_any w3.heap.size ct fb fr (fb + mb) (fr + mr) _ (Blk.new _ _ _) p1 p2 p3 p4 I1.out.2 I2.out.2 C.out.2 D.out.2).mono ?_
  rintro e w4 ⟨A4, c4, rfl, hb4, ho4, hf4⟩
  have k4 : w4.cell? ⟨w3.heap.size, 1, none⟩ = some (.slice A4 (chg ct fb fr (fb + mb) (fr + mr)).length c4) := hb4.cell 1
  have HO := Lib.hid ho4
  have HF := Lib.hid hf4
  clear hb4 ho4 hf4
  generalize hps : chg ct fb fr (fb + mb) (fr + mr) = ps at *
  clear hps
  go_wp2_with fail
  go_ret2
  refine ⟨A4, c4, rfl, own_weak HO.out (by have := B3.out.size; omega), ?_⟩
  have b4 : Below w.heap.size w (w3.alloc (.cells #[.int .i64 ct, .slice none 0 0] 96)) := B3.out.alloc B3.out.size _
  exact ⟨HF.out.os.trans b4.os, HF.out.tape.trans b4.tape, HF.out.output.trans b4.output, Nat.le_trans b4.size HF.out.size, fun q hq => (HF.out.block q (by have := b4.size; omega) (by omega)).trans (b4.block q hq)⟩

/-- What change tells: the postings, or why there are none. -/
def chgE : Int := if ct < 0 ∨ 40 ≤ ct ∨ fb < 0 ∨ fr < 0 then 1 else if ¬ I64 (fb + mb) ∨ ¬ I64 (fr + mr) then 3 else if fb + mb < 0 ∨ fr + mr < 0 then 1 else 0
def chgP : List Post := if chgE ct fb fr mb mr = 0 then chg ct fb fr (fb + mb) (fr + mr) else []
theorem change_any (i1 : I64 fb) (i2 : I64 fr) (i3 : I64 mb) (i4 : I64 mr) :
    Calls Try.prog 51 #[.int .i64 ct, .agg #[.int .i64 fb, .int .i64 fr], .int .i64 mb, .int .i64 mr] w (RetPs w (chgP ct fb fr mb mr) (chgE ct fb fr mb mr)) := by
  unfold chgP
  by_cases c1 : ct < 0 ∨ 40 ≤ ct
  · have e : chgE ct fb fr mb mr = 1 := by unfold chgE; rw [if_pos (by omega)]
    rw [e]; exact change_ct ct fb fr mb mr w c1
  · by_cases c2 : fb < 0 ∨ fr < 0
    · have e : chgE ct fb fr mb mr = 1 := by unfold chgE; rw [if_pos (by omega)]
      rw [e]; exact change_from ct fb fr mb mr w (by omega) (by omega) (by simp; omega)
    · have hd : decide (0 ≤ fb ∧ 0 ≤ fr) = true := by simp; omega
      by_cases c3 : ¬ I64 (fb + mb) ∨ ¬ I64 (fr + mr)
      · have e : chgE ct fb fr mb mr = 3 := by unfold chgE; rw [if_neg (by omega), if_pos c3]
        rw [e]; exact change_over ct fb fr mb mr w (by omega) (by omega) hd i1 i2 i3 i4 c3
      · have c4 : I64 (fb + mb) := Classical.byContradiction fun h => c3 (.inl h)
        have c5 : I64 (fr + mr) := Classical.byContradiction fun h => c3 (.inr h)
        by_cases c6 : fb + mb < 0 ∨ fr + mr < 0
        · have e : chgE ct fb fr mb mr = 1 := by unfold chgE; rw [if_neg (by omega), if_neg c3, if_pos c6]
          rw [e]; exact change_to ct fb fr mb mr w (by omega) (by omega) hd i1 i2 i3 i4 c4 c5 (by simp; omega)
        · have e : chgE ct fb fr mb mr = 0 := by unfold chgE; rw [if_neg (by omega), if_neg c3, if_neg c6]
          rw [e]; exact change_ok ct fb fr mb mr w (by omega) (by omega) hd i1 i2 i3 i4 c4 c5 (by simp; omega)

set_option maxRecDepth 100000 in
theorem bill_any (b r m : Int) (i1 : I64 b) (i2 : I64 r) (i3 : I64 m) : Calls Try.prog 27 #[.int .i64 ct, .int .i64 b, .int .i64 r, .int .i64 m] w (RetPs w (chgP ct b r m 0) (chgE ct b r m 0)) := by
  have HC := Lib.hid (change_any ct b r m 0 w i1 i2 i3 (by decide))
  clear i1 i2 i3
  go_enter Try.func27, Try.ntmps27
  go_wp2_with fail
  refine HC.out.mono ?_
  rintro e w1 ⟨A, c, rfl, ho, hb⟩
  have HO := Lib.hid ho
  clear ho HC
  generalize chgP ct b r m 0 = ps at *
  generalize chgE ct b r m 0 = er at *
  go_wp2_with fail
  go_ret2
  exact ⟨A, c, rfl, HO.out, hb⟩
set_option maxRecDepth 100000 in
theorem earn_any (b r m : Int) (i1 : I64 b) (i2 : I64 r) (i3 : I64 m) : Calls Try.prog 29 #[.int .i64 ct, .int .i64 b, .int .i64 r, .int .i64 m] w (RetPs w (chgP ct b r 0 m) (chgE ct b r 0 m)) := by
  have HC := Lib.hid (change_any ct b r 0 m w i1 i2 (by decide) i3)
  clear i1 i2 i3
  go_enter Try.func29, Try.ntmps29
  go_wp2_with fail
  refine HC.out.mono ?_
  rintro e w1 ⟨A, c, rfl, ho, hb⟩
  have HO := Lib.hid ho
  clear ho HC
  generalize chgP ct b r 0 m = ps at *
  generalize chgE ct b r 0 m = er at *
  go_wp2_with fail
  go_ret2
  exact ⟨A, c, rfl, HO.out, hb⟩
end
end Go.Proofs.Ytdapcahphaldjaa.Net
