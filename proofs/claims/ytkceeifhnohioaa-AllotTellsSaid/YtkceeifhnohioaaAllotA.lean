/- The walks of allot: All, left, rises, what is below 0, a clone, Again. -/
import Derived.Test.YtkceeifhnohioaaAllotMath
import Derived.Test.YtkceeifhnohioaaLaw02A
import Derived.Test.YtkceeifhnohioaaOwn
import Derived.Test.YtkceeifhnohioaaIs01
import Derived.Lib.SliceRun
namespace Go.Proofs.Ytkceeifhnohioaa.PO
open Go.RowKit Go.Proofs.Ytkceeifhnohioaa.Cents Go.Proofs.Ytkceeifhnohioaa.CO Go.Proofs.Ytkceeifhnohioaa.Exact
set_option linter.unusedVariables false
set_option linter.unusedSimpArgs false

/-- A list that the call made and owns, and why not. -/
def RetA (w : World) (l : List Int) (E : Int) (e : Ending) (w' : World) : Prop := ∃ v, e = .returned (.tuple #[v, .int .i64 E]) ∧ AllW w l v w'
theorem RetA.toL {w w' : World} {l : List Int} {E : Int} {e : Ending} (h : RetA w l E e w') : RetL w l E e w' := by
  obtain ⟨v, rfl, h⟩ := h
  obtain ⟨A, c, rfl, hc⟩ := own_slice h.own
  exact ⟨A, c, rfl, Row.of_own h.own (by decide), hc, h.be⟩
theorem RetA.none {w w' : World} (E : Int) (h : Below w.heap.size w w') : RetA w [] E (.returned (.tuple #[.slice none 0 0, .int .i64 E])) w' := ⟨_, rfl, ⟨World.ownsRow_nil _ _ _ _, h⟩⟩
theorem blk_own {w : World} {g base : Nat} {l : List Int} (h : Blk w g 2 (ints l).toArray) (hb : base ≤ g) (hl : l.length ≤ 1000000) : w.ownsRow base 2 1 (.slice (some ⟨g, 0, none⟩) l.length l.length) l.length (ints l) := by
  refine ⟨by simp [ints], .inr ⟨g, l.length, (ints l).toArray, rfl, hb, h, Nat.le_refl _, by unfold maxLen; omega, by simp [ints], List.take_of_length_le (by simp [ints])⟩⟩
theorem RetO.toA {w w' : World} {l : List Int} {E : Int} {e : Ending} (h : RetO w l E e w') (hl : l.length ≤ 1000000) : ∃ A c, e = .returned (.tuple #[.slice A l.length c, .int .i64 E]) ∧ Row w' w.heap.size A (ints l) ∧ (l ≠ [] → AllW w l (.slice A l.length c) w') ∧ Below w.heap.size w w' := by
  obtain ⟨A, c, rfl, h1, h2, h3, h4⟩ := h
  refine ⟨A, c, rfl, h1, fun hn => ?_, h3⟩
  rcases h4 with h4 | ⟨g, rfl, rfl, hg, hb⟩
  · exact absurd h4 hn
  · exact ⟨blk_own hb hg hl, h3⟩
theorem all_own (p : Int) (A : Option Addr) (al : List Int) (c : Nat) (w : World) (hT : I64 p) (hx : ∀ x ∈ al, I64 x) (hr : Row w 0 A (ints al)) (hl : al.length * 8 ≤ 140737488351232) :
    Calls Try.prog 8 #[.int .i64 p, .slice A al.length c] w (RetO w (allV p al) (allE p al)) := by
  by_cases h : p < 0
  · unfold allE allV
    rw [if_pos h, if_pos h]
    generalize al.length = n at *
    clear hx hr hl hT
    go_enter Try.func8, Try.ntmps8
    go_wp2_with fail
    go_ret2
    exact ⟨none, 0, rfl, Row.none_, by simp, Below.refl _ _, .inl rfl⟩
  · unfold allE allV
    rw [if_neg h, if_neg h]
    have HO := Lib.hid (out_own p A al c w hT hx hr hl)
    generalize outV p al = V at *
    generalize outE p al = E at *
    generalize al.length = n at *
    clear hx hr hl hT
    go_enter Try.func8, Try.ntmps8
    go_wp2_with fail
    refine HO.out.mono ?_
    rintro e w1 ⟨B, d, rfl, h1, h2, h3, h4⟩
    have H1 := Lib.hid h1
    have H2 := Lib.hid h2
    have H3 := Lib.hid h3
    have H4 := Lib.hid h4
    clear h1 h2 h3 h4
    go_wp2_with fail
    go_ret2
    exact ⟨B, d, rfl, H1.out, H2.out, H3.out, H4.out⟩
theorem all_is (p : Int) (A : Option Addr) (al : List Int) (c : Nat) (w : World) (hT : I64 p) (hx : ∀ x ∈ al, I64 x) (hr : Row w 0 A (ints al)) (hl : al.length * 8 ≤ 140737488351232) (V : List Int) (E : Int) (h : allV p al = V ∧ allE p al = E) :
    Calls Try.prog 8 #[.int .i64 p, .slice A al.length c] w (RetL w V E) := by
  rw [← h.1, ← h.2]; exact (all_own p A al c w hT hx hr hl).mono fun _ _ h => h.toL
theorem left_is (o : Int) (A : Option Addr) (xs : List Int) (c : Nat) (w : World) (ho : I64 o) (hx : ∀ x ∈ xs, I64 x) (hr : Row w 0 A (ints xs)) (hl : xs.length * 8 ≤ 140737488351232) (x y : Int) (h : leftN o xs.sum = x ∧ leftE o xs.sum = y) :
    Calls Try.prog 24 #[.int .i64 o, .slice A xs.length c] w fun e w' => e = .returned (.tuple #[.int .i64 x, .int .i64 y]) ∧ Below w.heap.size w w' := by
  by_cases hS : I64 xs.sum
  · have HS := Lib.hid (sum_is A xs c w xs.sum 0 hx hr hl ⟨by unfold sumN; rw [if_pos hS], by unfold sumE; rw [if_pos hS]⟩)
    have hle : fitN (o - xs.sum) = x ∧ fitE (o - xs.sum) = y := by
      rw [← h.1, ← h.2]
      unfold leftN leftE fitN fitE
      rw [if_pos hS]
      split <;> simp_all
    generalize xs.sum = S at *
    have HL := Lib.hid (fun W => less_is o S W ho hS x y hle)
    generalize xs.length = n at *
    clear hx hr hl h hle hS ho
    go_enter Try.func24, Try.ntmps24
    go_wp2_with fail
    refine HS.out.mono ?_
    rintro e w1 ⟨rfl, hb⟩
    have HB := Lib.hid hb
    clear hb
    go_wp2_with fail
    refine (HL.out _).mono ?_
    rintro e w2 ⟨rfl, rfl⟩
    go_wp2_with fail
    go_ret2
    exact ⟨rfl, HB.out⟩
  · have HS := Lib.hid (sum_is A xs c w 0 3 hx hr hl ⟨by unfold sumN; rw [if_neg hS], by unfold sumE; rw [if_neg hS]⟩)
    obtain ⟨h1, h2⟩ := h
    unfold leftN leftE at h1
    unfold leftE at h2
    rw [if_neg hS] at h1 h2
    rw [if_neg (by decide)] at h1
    subst h1 h2
    generalize xs.length = n at *
    clear hx hr hl hS ho
    go_enter Try.func24, Try.ntmps24
    go_wp2_with fail
    refine HS.out.mono ?_
    rintro e w1 ⟨rfl, hb⟩
    have HB := Lib.hid hb
    clear hb
    go_wp2_with fail
    go_ret2
    exact ⟨rfl, HB.out⟩

def risB (most : Int) : Int → List Int → Bool
  | _, [] => true
  | l, x :: wh => if x ≤ l ∨ most ≤ x then false else risB most x wh
theorem risB_iff (most : Int) : ∀ (wh : List Int) (l : Int), risB most l wh = true ↔ (∀ x ∈ wh, l < x ∧ x < most) ∧ wh.Pairwise (· < ·)
  | [], l => by simp [risB]
  | x :: wh, l => by
    unfold risB
    split
    · rename_i h
      constructor
      · intro h1; cases h1
      · rintro ⟨h1, _⟩; have := h1 x (by simp); omega
    · rename_i h
      rw [risB_iff most wh x, List.pairwise_cons]
      constructor
      · rintro ⟨h1, h2⟩
        refine ⟨fun y hy => ?_, fun y hy => (h1 y hy).1, h2⟩
        rcases List.mem_cons.1 hy with rfl | hy
        · omega
        · have := h1 y hy; omega
      · rintro ⟨h1, h2, h3⟩
        exact ⟨fun y hy => ⟨h2 y hy, (h1 y (by simp [hy])).2⟩, h3⟩
theorem rises_risB (wh : List Int) (most : Nat) : decide (Rises wh most) = (risB (most : Int) (-1) wh && decide (0 < wh.length)) := by
  rw [Bool.eq_iff_iff]
  simp only [decide_eq_true_eq, Bool.and_eq_true, risB_iff]
  unfold Rises
  constructor
  · rintro ⟨h1, h2, h3⟩
    exact ⟨⟨fun x hx => by have := h2 x hx; omega, h3⟩, List.length_pos_iff.2 h1⟩
  · rintro ⟨⟨h1, h2⟩, h3⟩
    exact ⟨List.length_pos_iff.1 h3, fun x hx => by have := h1 x hx; omega, h2⟩
theorem drop_at {l : List Int} {k : Nat} (h : k < l.length) : l.drop k = l.getD k 0 :: l.drop (k + 1) := by
  rw [List.drop_eq_getElem_cons h]
  simp [List.getD_eq_getElem?_getD, h]
set_option maxRecDepth 100000 in
theorem rises_any (A : Option Addr) (wh : List Int) (c most : Nat) (w : World) (hm : most ≤ 140737488351232) (hr : Row w 0 A (ints wh)) (hl : wh.length * 8 ≤ 140737488351232) (b : Bool) (hb : decide (Rises wh most) = b) :
    Calls Try.prog 23 #[.slice A wh.length c, .int .i64 (most : Int)] w fun e w' => e = .returned (.bool b) ∧ w = w' := by
  rw [rises_risB] at hb
  have HR := Lib.hid hr
  obtain ⟨n, hn⟩ : ∃ n, wh.length = n := ⟨_, rfl⟩
  rw [hn] at hl hb ⊢
  have HN := Lib.hid hn
  have HB := Lib.hid hb
  clear hr hb hn
  go_enter Try.func23, Try.ntmps23
  go_wp2_with fail
  go_loop [5, 10] (fun l i => ∃ (k : Nat) (p : Int), l = .int .i64 p ∧ i = .int .i64 (k : Int) ∧ k ≤ n ∧ risB (most : Int) p (wh.drop k) = risB (most : Int) (-1) wh) (fun _ i => n - (intOf i).toNat)
  case atStart => exact ⟨0, -1, rfl, rfl, by omega, rfl⟩
  case round =>
    obtain ⟨k, p, rfl, rfl, hk, hp⟩ := hrel
    have HP := Lib.hid hp
    clear hp
    have g0 : (0 : Int) ≤ (k : Int) := Int.natCast_nonneg _
    by_cases hlt : k < n
    · obtain ⟨ad, rfl, c0⟩ := int_cell HR.out (j := k) (by rw [HN.out]; exact hlt)
      have g1 : (k : Int) < (n : Int) := by omega
      have hd := drop_at (l := wh) (k := k) (by rw [HN.out]; exact hlt)
      generalize wh.getD k 0 = x at *
      have hp1 := HP.out
      rw [hd] at hp1
      simp only [risB] at hp1
      by_cases h1 : x ≤ p
      · rw [if_pos (.inl h1)] at hp1
        have HP1 := Lib.hid hp1
        clear hp1 hd
        go_wp2_with fail
        go_ret
        exact ⟨by rw [← HB.out, ← HP1.out]; rfl, rfl⟩
      · by_cases h2 : (most : Int) ≤ x
        · rw [if_pos (.inr h2)] at hp1
          have HP1 := Lib.hid hp1
          clear hp1 hd
          go_wp2_with fail
          go_ret
          exact ⟨by rw [← HB.out, ← HP1.out]; rfl, rfl⟩
        · rw [if_neg (by omega)] at hp1
          have HP1 := Lib.hid hp1
          clear hp1 hd
          go_wp2_with fail
          go_round
          case rel => exact ⟨k + 1, x, rfl, by go_num, by omega, HP1.out⟩
          case measure => simp [intOf]; omega
    · obtain rfl : k = n := by omega
      have hp1 := HP.out
      rw [List.drop_of_length_le (by rw [HN.out]; omega)] at hp1
      simp only [risB] at hp1
      have HP1 := Lib.hid hp1
      clear hp1
      by_cases h0 : 0 < k
      · have g2 : decide ((0 : Int) < (k : Int)) = true := by simp; omega
        go_wp2_with fail
        go_ret
        exact ⟨by rw [← HB.out, ← HP1.out]; simp [h0], rfl⟩
      · obtain rfl : k = 0 := by omega
        go_wp2_with fail
        go_ret
        exact ⟨by rw [← HB.out, ← HP1.out]; simp, rfl⟩

def negA (xs : List Int) : Bool := xs.any fun x => decide (x < 0)
theorem negA_take {xs : List Int} {j : Nat} (h : j < xs.length) : negA (xs.take (j + 1)) = (negA (xs.take j) || decide (xs.getD j 0 < 0)) := by
  unfold negA
  rw [List.take_succ_eq_append_getElem h, List.any_append]
  simp [List.getD_eq_getElem?_getD, h]
theorem neg_clo (x : Int) (w : World) (b : Bool) (hb : decide (x < 0) = b) : Calls Try.prog 21 #[.int .i64 x] w fun e w' => e = .returned (.bool b) ∧ w = w' := by
  have HB := Lib.hid hb
  clear hb
  go_enter Try.func21, Try.ntmps21
  go_wp2_with fail
  go_ret
  exact ⟨by rw [← HB.out]; rfl, rfl⟩
set_option maxHeartbeats 1000000 in
set_option maxRecDepth 100000 in
theorem index_neg (A : Option Addr) (xs : List Int) (c : Nat) (w : World) (hr : Row w 0 A (ints xs)) (hl : xs.length * 8 ≤ 140737488351232) (b : Bool) (hb : negA xs = b) :
    Calls Try.prog 38 #[.slice A xs.length c, .func (.func 21) #[] #[]] w (fun e w' => ∃ r : Int, e = .returned (.int .i64 r) ∧ decide (0 ≤ r) = b ∧ w = w') := by
  have HR := Lib.hid hr
  have HB := Lib.hid hb
  obtain ⟨n, hn⟩ : ∃ n, xs.length = n := ⟨_, rfl⟩
  rw [hn] at hl ⊢
  have HN := Lib.hid hn
  clear hr hb hn
  go_enter Try.func38, Try.ntmps38
  go_wp2_with fail
  go_loop [8] (fun v => ∃ (k : Nat), v = .int .i64 (k : Int) ∧ k ≤ n ∧ negA (xs.take k) = false) (fun v => n - (intOf v).toNat)
  case atStart => exact ⟨0, rfl, by omega, by simp [negA]⟩
  case round =>
    obtain ⟨k, rfl, hk, hany⟩ := hrel
    by_cases hlt : k < n
    · obtain ⟨ad, rfl, c0⟩ := int_cell HR.out (j := k) (by rw [HN.out]; exact hlt)
      have hta := negA_take (xs := xs) (j := k) (by rw [HN.out]; exact hlt)
      rw [hany, Bool.false_or] at hta
      have hm : xs.getD k 0 ∈ xs := by
        have : k < xs.length := by rw [HN.out]; exact hlt
        simp [List.getD_eq_getElem?_getD, this]
      generalize xs.getD k 0 = x at *
      have HT := Lib.hid hta
      have HM := Lib.hid hm
      have g0 : (0 : Int) ≤ (k : Int) := Int.natCast_nonneg _
      have g1 : (k : Int) < (n : Int) := by omega
      clear hany hta hm
      cases hbd : decide (x < 0) with
      | true =>
        have HBD := Lib.hid hbd
        clear hbd
        go_wp2_with fail
        refine (neg_clo x _ true HBD.out).mono ?_
        rintro e w2 ⟨rfl, rfl⟩
        go_wp2_with fail
        go_ret
        refine ⟨_, rfl, ?_, rfl⟩
        have hx : negA xs = true := by
          unfold negA
          rw [List.any_eq_true]
          exact ⟨_, HM.out, HBD.out⟩
        rw [← HB.out, hx]; simp
      | false =>
        have HBD := Lib.hid hbd
        clear hbd
        go_wp2_with fail
        refine (neg_clo x _ false HBD.out).mono ?_
        rintro e w2 ⟨rfl, rfl⟩
        go_wp2_with fail
        go_round
        case rel => exact ⟨k + 1, by go_num, by omega, by rw [HT.out]; exact HBD.out⟩
        case measure => simp only [intOf]; omega
    · obtain rfl : k = n := by omega
      have HF := Lib.hid (show negA xs = false by rw [← hany, List.take_of_length_le (by rw [HN.out]; omega)])
      clear hany
      go_wp2_with fail
      go_ret
      exact ⟨_, rfl, by rw [← HB.out, HF.out]; rfl, rfl⟩
theorem contains_neg (A : Option Addr) (xs : List Int) (c : Nat) (w : World) (hr : Row w 0 A (ints xs)) (hl : xs.length * 8 ≤ 140737488351232) (b : Bool) (hb : negA xs = b) :
    Calls Try.prog 22 #[.slice A xs.length c, .func (.func 21) #[] #[]] w fun e w' => e = .returned (.bool b) ∧ w = w' := by
  have HI := Lib.hid (index_neg A xs c w hr hl b hb)
  generalize xs.length = n at *
  clear hr hl hb
  go_enter Try.func22, Try.ntmps22
  go_wp2_with fail
  refine HI.out.mono ?_
  rintro e w1 ⟨r, rfl, hr, rfl⟩
  have HR := Lib.hid hr
  clear hr
  go_wp2_with fail
  go_ret
  exact ⟨by rw [← HR.out]; rfl, rfl⟩

theorem own_empty (w : World) (e size : Nat) (base : Nat) (h : base ≤ w.heap.size) : (w.alloc (.cells #[] e)).ownsRow base e size (.slice (some ⟨w.heap.size, 0, none⟩) 0 0) 0 [] := by
  refine ⟨by simp, .inr ⟨w.heap.size, 0, #[], rfl, h, heap_alloc_new w _, Nat.le_refl _, by unfold maxLen; omega, by simp, by simp⟩⟩
theorem sclone_any (A : Option Addr) (xs : List Int) (c : Nat) (w : World) (h0 : xs ≠ []) (hr : Row w 0 A (ints xs)) (hl : xs.length ≤ 1000000) :
    Calls Try.prog 25 #[.slice A xs.length c] w (fun e w' => ∃ v, e = .returned v ∧ AllW w xs v w') := by
  have hpos : 0 < (ints xs).length := by rw [ints_len]; exact List.length_pos_iff.2 h0
  obtain ⟨ad, rfl, _, hc⟩ := hr hpos
  have HC := Lib.hid (fun j u h => cell_below' (alloc1 w (.cells #[] 2)) (hc j u h))
  have HL := Lib.hid (show (ints xs).length = xs.length * 1 by rw [ints_len, Nat.mul_one])
  have HO := Lib.hid (own_empty w 2 1 w.heap.size (Nat.le_refl _))
  have h1 : 0 < xs.length := List.length_pos_iff.2 h0
  obtain ⟨n, hn⟩ : ∃ n, xs.length = n := ⟨_, rfl⟩
  have HN := Lib.hid hn
  rw [hn] at hl HL h1 ⊢
  have hb1 : (0 + n) * 8 ≤ 140737488355328 := by omega
  have hb2 : 0 + n ≤ maxLen := by unfold maxLen; omega
  have HE := Lib.run_eql_slice_nil (P := Try.prog) w 22 2 (some ad) n c 0 0 Try.underlying22
  clear h0 hpos hr hc hn
  go_enter Try.func25, Try.ntmps25
  go_wp2_with (at_builtin; refine wpList_app E_i64 rfl (.tmp 5) (.tmp 6) rfl rfl HO.out ad n c (ints xs) rfl HL.out HC.out (by simp [ints, Value.oneCell']) hb1 hb2 (by simp) h1 ?_; intro g cap w2 hown hg hat; have HO2 := Lib.hid hown; have HB2 := Lib.hid ((alloc1 w (.cells #[] 2)).grown hg (by simp) (fun j hj => by have := (HO.out.lt j hj).1; omega)); clear hown hg hat)
  go_ret
  have hown := HO2.out
  rw [Nat.zero_add, List.nil_append] at hown
  exact ⟨_, rfl, ⟨by rw [HN.out]; exact hown, HB2.out⟩⟩
section
open Go.RowKit Go.Proofs.Ytkceeifhnohioaa.Cents Go.Proofs.Ytkceeifhnohioaa.CO Go.Proofs.Ytkceeifhnohioaa.Exact
set_option linter.unusedVariables false
set_option linter.unusedSimpArgs false

theorem AllW.kept {w0 w w' : World} {out : List Int} {v : Value} (h : AllW w0 out v w) (hw : w' = w) : AllW w0 out v w' := by rw [hw]; exact h
theorem again_bad (t : Int) (D A : Option Addr) (d al : List Int) (cd c : Nat) (w : World) (h : d.length ≠ al.length) (hd : d.length ≤ 1000000) (hl : al.length ≤ 1000000) :
    Calls Try.prog 14 #[.int .i64 t, .slice D d.length cd, .slice A al.length c] w (RetA w (againV t d al) (againE t d al)) := by
  obtain ⟨h1, h2⟩ := again_len (t := t) h
  rw [h1, h2]
  generalize d.length = m at *
  generalize al.length = n at *
  have hb : ((m : Int) != (n : Int)) = true := by simp; omega
  have hb2 : decide ((m : Int) = (n : Int)) = false := by simp; omega
  clear h h1 h2
  go_enter Try.func14, Try.ntmps14
  go_wp2_with fail
  go_ret2
  exact RetA.none 1 (Below.refl _ _)
set_option maxHeartbeats 1000000 in
set_option maxRecDepth 100000 in
theorem again_same (t : Int) (D A : Option Addr) (d al : List Int) (cd c : Nat) (w : World) (ht : I64 t) (h : d.length = al.length) (hl : al.length ≤ 1000000) (hxd : ∀ x ∈ d, I64 x) (hxa : ∀ x ∈ al, I64 x) (hrd : Row w 0 D (ints d)) (hra : Row w 0 A (ints al)) :
    Calls Try.prog 14 #[.int .i64 t, .slice D d.length cd, .slice A al.length c] w (RetA w (againV t d al) (againE t d al)) := by
  have HRD := Lib.hid hrd
  have HRA := Lib.hid hra
  by_cases h2 : leftE t d.sum = 0
  · have HLE := Lib.hid (left_is t D d cd w ht hxd hrd (by omega) (leftN t d.sum) 0 ⟨rfl, h2⟩)
    by_cases h3 : outE (leftN t d.sum) al = 0
    · have HG := Lib.hid (outV_good h3)
      have hvI := HG.out.I leftN_I
      have hvl := HG.out.len
      have hn1 := (wE_ok (outE_ok h3).1).2.2.2.2
      have HOU := Lib.hid (fun w1 (hr : Row w1 0 A (ints al)) => out_own (leftN t d.sum) A al c w1 leftN_I hxa hr (by omega))
      have HAO := Lib.hid (fun k (hk : k < _) h4 => again_over (k := k) h h2 h3 hk h4)
      have HOK := Lib.hid (again_ok h h2 h3)
      rw [h3] at HOU
      clear h2 h3 HG
      generalize againV t d al = RV at *
      generalize againE t d al = RE at *
      generalize outV (leftN t d.sum) al = V at *
      generalize leftN t d.sum = N at *
      obtain ⟨n, hn⟩ : ∃ n, al.length = n := ⟨_, rfl⟩
      rw [hn] at h hl hvl hn1 HOU HOK ⊢
      rw [h] at HLE ⊢
      have HDN := Lib.hid h
      have HVN := Lib.hid hvl
      have HVI := Lib.hid hvI
      have HXD := Lib.hid hxd
      have HAN := Lib.hid hn
      clear h hvl hvI hxd hxa hrd hra hn
      go_enter Try.func14, Try.ntmps14
      go_wp2_with fail
      refine HLE.out.mono ?_
      rintro e w1 ⟨rfl, hb⟩
      have HB1 := Lib.hid hb
      clear hb
      go_wp2_with fail
      refine (HOU.out _ (HRA.out.below HB1.out)).mono ?_
      rintro e w2 hret
      obtain ⟨B, cb, rfl, _, hall, _⟩ := hret.toA (by rw [HVN.out]; omega)
      have hall2 := hall (fun e => by have := HVN.out; rw [e] at this; simp at this; omega)
      have hal3 : AllW w V (.slice B V.length cb) w2 := ⟨⟨hall2.own.1, hall2.own.2.imp id fun ⟨g, cap, cur, e, hb, r⟩ => ⟨g, cap, cur, e, Nat.le_trans HB1.out.size hb, r⟩⟩, HB1.out.trans (hall2.be.mono HB1.out.size)⟩
      rw [HVN.out] at hal3 ⊢
      obtain ⟨g, cap, hv, hcap⟩ := hal3.form HVN.out hn1
      injection hv with e1 _ e3
      subst e1 e3
      have HA := Lib.hid (show AllW w (mix V d 0) (.slice (some ⟨g, 0, none⟩) n cb) w2 by rw [mix_zero]; exact hal3)
      clear hret hall hall2 hal3 HOU HLE HB1
      go_wp2_with fail
      go_loopw [37] (fun i wr => ∃ k : Nat, i = .int .i64 (k : Int) ∧ k ≤ n ∧ (∀ i, i < k → I64 (V.getD i 0 + d.getD i 0)) ∧ AllW w (mix V d k) (.slice (some ⟨g, 0, none⟩) n cb) wr) (fun i _ => n - (intOf i).toNat)
      case atStart => exact ⟨0, rfl, by omega, fun i hi => by omega, HA.out⟩
      case round =>
        clear HA
        obtain ⟨k, rfl, hk, hok, ha⟩ := hrel
        have HK := Lib.hid hok
        have HA := Lib.hid ha
        clear hok ha
        have g0 : (0 : Int) ≤ (k : Int) := Int.natCast_nonneg _
        by_cases hlt : k < n
        · obtain ⟨dd, rfl, c0⟩ := int_cell (HRD.out.below HA.out.be) (j := k) (by rw [HDN.out]; exact hlt)
          have c1 := HA.out.cell (by rw [mix_len]; exact HVN.out) hlt
          have c2 := HA.out.free (by rw [mix_len]; exact HVN.out) k
          rw [mix_get (by rw [HVN.out]; exact hlt)] at c1
          have hst := mix_step (V := V) (d := d) (k := k) (by rw [HVN.out]; exact hlt)
          have g1 : (k : Int) < (n : Int) := by omega
          have hI := fun (X : List Int) (hX : ∀ y ∈ X, I64 y) i (hi : i < X.length) => (show I64 (X.getD i 0) by rw [List.getD_eq_getElem?_getD, List.getElem?_eq_getElem hi]; exact hX _ (List.getElem_mem _))
          have i1 := hI V HVI.out k (by rw [HVN.out]; exact hlt)
          have i2 := hI d HXD.out k (by rw [HDN.out]; exact hlt)
          have hov := HAO.out k (by rw [HVN.out]; exact hlt)
          have HKK := Lib.hid (fun (hi : I64 (V.getD k 0 + d.getD k 0)) i (hik : i < k + 1) => show I64 (V.getD i 0 + d.getD i 0) from by
            rcases Nat.lt_or_ge i k with q | q
            · exact HK.out i q
            · rw [show i = k by omega]; exact hi)
          generalize V.getD k 0 = x at *
          generalize d.getD k 0 = y at *
          have HST := Lib.hid hst
          have HOV := Lib.hid hov
          have HAL := Lib.hid HRD
          clear hI hst hov HK
          by_cases hs : I64 (x + y)
          · have HAD := Lib.hid (fun W' => add_is x y W' i1 i2 (x + y) 0 (by unfold fitN fitE; rw [if_pos hs, if_pos hs]; exact ⟨rfl, rfl⟩))
            have HS := Lib.hid hs
            clear i1 i2 hs
            go_wp2_with fail
            go_region_with ((go_at_call 18; refine (HAD.out _).mono ?_; rintro e w5 ⟨rfl, hw5⟩; have HA5 := Lib.hid (show AllW w (mix V d k) (.slice (some ⟨g, 0, none⟩) n cb) w5 from hw5 ▸ (HA.out.drewN 1)); have f1 := HA5.out.cell (by rw [mix_len]; exact HVN.out) hlt; have f2 := HA5.out.free (by rw [mix_len]; exact HVN.out) k; clear hw5))
            all_goals
              have HA6 := HA5.out.set (by rw [mix_len]; exact HVN.out) k (x + y)
              rw [HST.out] at HA6
              have HA6 := Lib.hid HA6
              go_wp2_with fail
              go_roundw
              case rel => exact ⟨k + 1, by go_num, by omega, HKK.out HS.out, HA6.out⟩
              case measure => simp only [intOf]; omega
          · have HAD := Lib.hid (fun W' => add_is x y W' i1 i2 0 3 (by unfold fitN fitE; rw [if_neg hs, if_neg hs]; exact ⟨rfl, rfl⟩))
            have HS := Lib.hid (HOV.out hs)
            clear i1 i2 hs
            go_wp2_with fail
            go_region_with ((go_at_call 18; refine (HAD.out _).mono ?_; rintro e w5 ⟨rfl, hw5⟩; have HA5 := Lib.hid (show AllW w (mix V d k) (.slice (some ⟨g, 0, none⟩) n cb) w5 from hw5 ▸ (HA.out.drewN 1)); have f1 := HA5.out.cell (by rw [mix_len]; exact HVN.out) hlt; have f2 := HA5.out.free (by rw [mix_len]; exact HVN.out) k; clear hw5))
            all_goals
              have HA6 := Lib.hid (HA5.out.set (by rw [mix_len]; exact HVN.out) k 0)
              go_wp2_with fail
              go_ret2
              rw [HS.out.1, HS.out.2]
              exact RetA.none 3 HA6.out.be
        · obtain rfl : k = n := by omega
          go_wp2_with fail
          go_ret2
          obtain ⟨h1, h2⟩ := HOK.out (by rw [HVN.out]; exact HK.out)
          rw [h1, h2]
          refine ⟨_, rfl, ?_⟩
          exact HA.out
    · have HOU := Lib.hid (fun w1 (hr : Row w1 0 A (ints al)) => out_is (leftN t d.sum) A al c w1 leftN_I hxa hr (by omega) [] (outE (leftN t d.sum) al) ⟨outV_bad h3, rfl⟩)
      obtain ⟨h4, h5⟩ := again_out h h2 h3
      rw [h4, h5]
      generalize outE (leftN t d.sum) al = E at *
      generalize leftN t d.sum = N at *
      have hE : (E != 0) = true := by simpa using h3
      rw [h] at HLE ⊢
      generalize al.length = n at *
      clear h h2 h3 h4 h5 hxd hxa hrd hra
      go_enter Try.func14, Try.ntmps14
      go_wp2_with fail
      refine HLE.out.mono ?_
      rintro e w1 ⟨rfl, hb⟩
      have HB1 := Lib.hid hb
      clear hb
      go_wp2_with fail
      refine (HOU.out _ (HRA.out.below HB1.out)).mono ?_
      rintro e w2 ⟨B, cb, rfl, _, _, hb⟩
      have HB2 := Lib.hid (HB1.out.trans (hb.mono HB1.out.size))
      clear hb
      go_wp2_with fail
      go_ret2
      exact RetA.none _ HB2.out
  · have h3 := (leftE_or t d.sum).resolve_left h2
    have HLE := Lib.hid (left_is t D d cd w ht hxd hrd (by omega) (leftN t d.sum) 3 ⟨rfl, h3⟩)
    obtain ⟨h4, h5⟩ := again_left h h2
    rw [h4, h5]
    generalize leftN t d.sum = N at *
    rw [h] at HLE ⊢
    generalize al.length = n at *
    clear h h2 h3 h4 h5 hxd hxa hrd hra
    go_enter Try.func14, Try.ntmps14
    go_wp2_with fail
    refine HLE.out.mono ?_
    rintro e w1 ⟨rfl, hb⟩
    have HB1 := Lib.hid hb
    clear hb
    go_wp2_with fail
    go_ret2
    exact RetA.none _ HB1.out
theorem again_any (t : Int) (D A : Option Addr) (d al : List Int) (cd c : Nat) (w : World) (ht : I64 t) (hd : d.length ≤ 1000000) (hl : al.length ≤ 1000000) (hxd : ∀ x ∈ d, I64 x) (hxa : ∀ x ∈ al, I64 x) (hrd : Row w 0 D (ints d)) (hra : Row w 0 A (ints al)) :
    Calls Try.prog 14 #[.int .i64 t, .slice D d.length cd, .slice A al.length c] w (RetA w (againV t d al) (againE t d al)) := by
  by_cases h : d.length = al.length
  · exact again_same t D A d al cd c w ht h hl hxd hxa hrd hra
  · exact again_bad t D A d al cd c w h hd hl
end
section
open Go.RowKit Go.Proofs.Ytkceeifhnohioaa.Cents Go.Proofs.Ytkceeifhnohioaa.CO Go.Proofs.Ytkceeifhnohioaa.Exact
set_option linter.unusedVariables false
set_option linter.unusedSimpArgs false

theorem wpList_none {P : Program} {w : World} {t e size bytes : Nat} (hE : ElemT P t e size bytes) {ops : Array Oper} {rest : List Oper} {o : Oper} {a : Act} {Q : Exit → Act → World → Prop} (hgd : o.guard = none) (s x : Operand)
    (ho : o.op = .call { callee := .builtin .append, args := #[s, x], argTypes := #[t, t] }) {A B : Option Addr} {n c d : Nat} (hs : a.eval s = .slice A n c) (hx : a.eval x = .slice B 0 d) (hn : n ≤ c)
    (h : wpList P ops Q rest (a.put o.dst (.slice A n c)) w) : wpList P ops Q (o :: rest) a w := by
  obtain ⟨i, z, hu, hi, hz, hsz, hby, hzs, hpos⟩ := hE.ex
  refine wpList_plain hgd fun _ hK => ?_
  unfold Oper.wp execOp
  simp only [ho, resolve, invoke, builtin, Sem.run_bind, Sem.run_pure, Result.andThen_ok, List.map_toArray, List.map_cons, List.map_nil, hs, hx, run_append_none w hu hi A B n c d hn]
  exact hK _ _ h
theorem lit_own {w : World} {g base : Nat} {x : Int} (h : Blk w g 2 #[.int .i64 x]) (hb : base ≤ g) : w.ownsRow base 2 1 (.slice (some ⟨g, 0, none⟩) 1 1) 1 [.int .i64 x] :=
  ⟨by simp, .inr ⟨g, 1, #[.int .i64 x], rfl, hb, h, Nat.le_refl _, by unfold maxLen; omega, by simp, by simp⟩⟩
/-- 'append([]int64{x}, l...)'. -/
theorem wpList_pre {w : World} {ops : Array Oper} {rest : List Oper} {o : Oper} {a : Act} {Q : Exit → Act → World → Prop} (hgd : o.guard = none) (s x : Operand)
    (ho : o.op = .call { callee := .builtin .append, args := #[s, x], argTypes := #[22, 22] }) {g base n c : Nat} {v : Int} {A : Option Addr} {al : List Int} (hs : a.eval s = .slice (some ⟨g, 0, none⟩) 1 1) (hb : Blk w g 2 #[.int .i64 v]) (hg : base ≤ g)
    (hx : a.eval x = .slice A n c) (hn : al.length = n) (hr : Row w 0 A (ints al)) (hl : n ≤ 1000000)
    (h : ∀ B cap w', Row w' 0 B (ints (v :: al)) → Below base w w' → wpList Try.prog ops Q rest (a.put o.dst (.slice B (1 + n) cap)) w') : wpList Try.prog ops Q (o :: rest) a w := by
  have ho2 := lit_own hb hg
  have hbl : base ≤ w.heap.size := Nat.le_trans hg (Nat.le_of_lt hb.lt)
  by_cases h0 : n = 0
  · subst h0
    obtain rfl := List.length_eq_zero_iff.1 hn
    refine wpList_none E_i64 hgd s x ho hs hx (Nat.le_refl _) ?_
    exact h _ _ _ ((Row.of_own ho2 (by decide)).weak (Nat.zero_le _)) (Below.refl _ _)
  · obtain ⟨ad, rfl, _, hc⟩ := hr (by rw [ints_len]; omega)
    refine wpList_app E_i64 hgd s x ho hs ho2 ad n c (ints al) hx (by rw [ints_len]; omega) hc (by simp [ints, Value.oneCell']) (by omega) (by unfold maxLen; omega) hbl (by omega) ?_
    intro g2 cap w' hown hgrow _
    refine h _ _ _ ((Row.of_own (xs := ints (v :: al)) hown (by decide)).weak (Nat.zero_le _)) ((Below.refl _ _).grown hgrow hbl (fun j hj => ?_))
    simp [Value.ownBlock] at hj
    omega
set_option maxRecDepth 100000 in
theorem disc_plain (p : Int) (A : Option Addr) (al : List Int) (c : Nat) (w : World) (hp : I64 p) (h0 : p ≠ -9223372036854775808) (hl : al.length ≤ 1000000) (hx : ∀ x ∈ al, I64 x) (hr : Row w 0 A (ints al)) (x y : Int) (h : fitN (al.sum - p) = x ∧ fitE (al.sum - p) = y) :
    Calls Try.prog 12 #[.int .i64 p, .slice A al.length c] w fun e w' => e = .returned (.tuple #[.int .i64 x, .int .i64 y]) ∧ Below w.heap.size w w' := by
  have HR := Lib.hid hr
  unfold I64 at hp
  have hs2 : (-p :: al).sum = al.sum - p := by rw [List.sum_cons]; omega
  have HS := Lib.hid (fun B cap w' (hrow : Row w' 0 B (ints (-p :: al))) => sum_is B (-p :: al) cap w' x y (fun z hz => by
    rcases List.mem_cons.1 hz with rfl | hz
    · unfold I64; omega
    · exact hx z hz) hrow (by rw [List.length_cons]; omega) (by rw [hs2]; exact h))
  obtain ⟨n, hn⟩ : ∃ n, al.length = n := ⟨_, rfl⟩
  have HN := Lib.hid hn
  rw [List.length_cons, hn, Nat.add_comm n 1] at HS
  rw [hn] at hl ⊢
  have hw : IntKind.i64.wrap (-p) = -p := IntWalk.i64_in _ (by omega)
  have hb : (p == -9223372036854775808) = false := by simpa using h0
  have hb2 : decide (p = -9223372036854775808) = false := by simpa using h0
  clear hr hx h hs2 hn
  go_enter Try.func12, Try.ntmps12
  go_wp2_with (at_builtin; refine wpList_pre rfl (.tmp 15) (.tmp 16) rfl (base := w.heap.size) rfl (Blk.new w 2 _) (Nat.le_refl _) rfl HN.out (HR.out.below (alloc1 w _)) hl ?_; intro B cap w2 hrow hbel; have HRW := Lib.hid hrow; have HB := Lib.hid ((alloc1 w (.cells #[.int .i64 (-p)] 2)).trans (hbel.mono (Nat.le_refl _))); clear hrow hbel)
  refine (HS.out _ _ _ HRW.out).mono ?_
  rintro e w3 ⟨rfl, hb⟩
  have HB2 := Lib.hid (HB.out.trans (hb.mono HB.out.size))
  clear hb
  go_wp2_with fail
  go_ret2
  exact ⟨rfl, HB2.out⟩
set_option maxRecDepth 100000 in
theorem disc_least (A : Option Addr) (al : List Int) (c : Nat) (w : World) (hl : al.length ≤ 500000) (hx : ∀ x ∈ al, I64 x) (hr : Row w 0 A (ints al)) (x y : Int) (h : fitN (al.sum - -9223372036854775808) = x ∧ fitE (al.sum - -9223372036854775808) = y) :
    Calls Try.prog 12 #[.int .i64 (-9223372036854775808), .slice A al.length c] w fun e w' => e = .returned (.tuple #[.int .i64 x, .int .i64 y]) ∧ Below w.heap.size w w' := by
  have HR := Lib.hid hr
  have hs2 : (9223372036854775807 :: 1 :: al).sum = al.sum - -9223372036854775808 := by rw [List.sum_cons, List.sum_cons]; omega
  have HS := Lib.hid (fun B cap w' (hrow : Row w' 0 B (ints (9223372036854775807 :: 1 :: al))) => sum_is B (9223372036854775807 :: 1 :: al) cap w' x y (fun z hz => by
    rcases List.mem_cons.1 hz with rfl | hz
    · unfold I64; omega
    · rcases List.mem_cons.1 hz with rfl | hz
      · unfold I64; omega
      · exact hx z hz) hrow (by rw [List.length_cons, List.length_cons]; omega) (by rw [hs2]; exact h))
  obtain ⟨n, hn⟩ : ∃ n, al.length = n := ⟨_, rfl⟩
  have HN := Lib.hid hn
  have HN1 := Lib.hid (show ((1 : Int) :: al).length = 1 + n by rw [List.length_cons, hn]; omega)
  rw [List.length_cons, List.length_cons, hn, show n + 1 + 1 = 1 + (1 + n) by omega] at HS
  rw [hn] at hl ⊢
  have hl1 : 1 + n ≤ 1000000 := by omega
  clear hr hx h hs2 hn
  go_enter Try.func12, Try.ntmps12
  go_wp2_with (first
    | (at_builtin; refine wpList_pre rfl (.tmp 8) (.tmp 9) rfl (base := w.heap.size) rfl (Blk.new w 2 _) (Nat.le_refl _) rfl HN.out (HR.out.below (alloc1 w _)) (by omega) ?_; intro B cap w2 hrow hbel; have HRW := Lib.hid hrow; have HB := Lib.hid ((alloc1 w (.cells #[.int .i64 1] 2)).trans (hbel.mono (Nat.le_refl _))); clear hrow hbel)
    | (at_builtin; refine wpList_pre rfl (.tmp 15) (.tmp 16) rfl (base := w2.heap.size) rfl (Blk.new w2 2 _) (Nat.le_refl _) rfl HN1.out (HRW.out.below (alloc1 w2 _)) (by omega) ?_; intro B3 cap3 w3 hrow hbel; have HRW3 := Lib.hid hrow; have HB3 := Lib.hid (HB.out.trans (((alloc1 w2 (.cells #[.int .i64 9223372036854775807] 2)).trans (hbel.mono (Nat.le_refl _))).mono HB.out.size)); clear hrow hbel))
  refine (HS.out _ _ _ HRW3.out).mono ?_
  rintro e w4 ⟨rfl, hb⟩
  have HB4 := Lib.hid (HB3.out.trans (hb.mono HB3.out.size))
  clear hb
  go_wp2_with fail
  go_ret2
  exact ⟨rfl, HB4.out⟩
theorem disc_is (p : Int) (A : Option Addr) (al : List Int) (c : Nat) (w : World) (hp : I64 p) (hl : al.length ≤ 500000) (hx : ∀ x ∈ al, I64 x) (hr : Row w 0 A (ints al)) (x y : Int) (h : fitN (al.sum - p) = x ∧ fitE (al.sum - p) = y) :
    Calls Try.prog 12 #[.int .i64 p, .slice A al.length c] w fun e w' => e = .returned (.tuple #[.int .i64 x, .int .i64 y]) ∧ Below w.heap.size w w' := by
  by_cases h0 : p = -9223372036854775808
  · subst h0; exact disc_least A al c w hl hx hr x y h
  · exact disc_plain p A al c w hp h0 (by omega) hx hr x y h
end
section
open Go.RowKit Go.Proofs.Ytkceeifhnohioaa.Cents Go.Proofs.Ytkceeifhnohioaa.CO Go.Proofs.Ytkceeifhnohioaa.Exact
open Go.Maps (Keyed)
set_option linter.unusedVariables false
set_option linter.unusedSimpArgs false

theorem lawI : Keyed Try.prog 3 := Maps.int_keyed Try.underlying3
abbrev MapI (B n : Nat) (D : DataW Unit) (w : World) : Prop := w.ownsMap Try.prog 3 (plainElem Try.prog 2) B n D
theorem own_map_ne {H : Type} {P : Program} {k : TypeId} {R : Value → Option (DataW H × List MemPlace)} {w : World} {base e size n m B : Nat} {v : Value} {xs : List Value} {D : DataW H} (h : w.ownsRow base e size v n xs) (hm : w.ownsMap P k R B m D) : ∀ g, v.ownBlock = some g → g ≠ B := by
  intro g hg
  rcases h.2 with ⟨h2, _⟩ | ⟨g', cap', cur, rfl, hgb, hh, _⟩
  · subst h2; cases hg
  · simp only [Value.ownBlock, Option.some.injEq] at hg
    subst hg
    rintro rfl
    obtain ⟨es, clock, hb, _⟩ := hm
    rw [hb] at hh
    cases hh
theorem own_turn {w w' : World} {base e size n : Nat} {v : Value} {xs : List Value} {row : Option Nat} (h : w.ownsRow base e size v n xs) (hg : w.grownBy w' row) (hne : ∀ g, v.ownBlock = some g → some g ≠ row) : w'.ownsRow base e size v n xs := by
  refine ⟨h.1, h.2.imp id fun ⟨g, cap, cur, e, hb, hgg, rest⟩ => ⟨g, cap, cur, e, hb, ?_, rest⟩⟩
  exact (hg.block g (Array.getElem?_eq_some_iff.1 hgg).1 (hne g (by rw [e]; rfl))).trans hgg
theorem AllW.other {w0 w w' : World} {out : List Int} {v : Value} {row : Option Nat} (h : AllW w0 out v w) (hg : w.grownBy w' row) (hne : ∀ g, v.ownBlock = some g → some g ≠ row) (hrow : ∀ j, row = some j → w0.heap.size ≤ j) : AllW w0 out v w' :=
  ⟨own_turn h.own hg hne, h.be.grown hg h.be.size hrow⟩

theorem all_inB {w w2 w3 : World} {out : List Int} {v : Value} (h : AllW w2 out v w3) (hl : Below w.heap.size w w2) : AllW w out v w3 := ⟨⟨h.own.1, h.own.2.imp id fun ⟨g, cap, cur, e, hb, r⟩ => ⟨g, cap, cur, e, Nat.le_trans hl.size hb, r⟩⟩, hl.trans (h.be.mono hl.size)⟩
theorem someG_not {p : Int} {al wh : List Int} (h0 : ¬ p < 0) (h1 : negA al = false) (h2 : Rises wh al.length) : someG p al wh := by
  refine ⟨by omega, fun x hx => ?_, h2⟩
  unfold negA at h1
  rw [List.any_eq_false] at h1
  have := h1 x hx
  simpa using this
theorem someG_neg {p : Int} {al wh : List Int} (h1 : negA al = true) : ¬ someG p al wh := by
  rintro ⟨_, h2, _⟩
  unfold negA at h1
  rw [List.any_eq_true] at h1
  obtain ⟨x, hx, hx2⟩ := h1
  have := h2 x hx
  simp at hx2
  omega
theorem some_bad (p : Int) (A W : Option Addr) (al wh : List Int) (c d : Nat) (w : World) (h : ¬ someG p al wh) (hra : Row w 0 A (ints al)) (hrw : Row w 0 W (ints wh)) (hl : al.length ≤ 1000000) (hm : wh.length ≤ 1000000) :
    Calls Try.prog 10 #[.int .i64 p, .slice A al.length c, .slice W wh.length d] w (RetA w (someV p al wh) (someE p al wh)) := by
  obtain ⟨e1, e2⟩ := some_no h
  rw [e1, e2]
  clear e1 e2
  by_cases h0 : p < 0
  · generalize al.length = n at *
    generalize wh.length = m at *
    clear h hra hrw
    go_enter Try.func10, Try.ntmps10
    go_wp2_with fail
    go_ret2
    exact RetA.none 1 (Below.refl _ _)
  · cases h1 : negA al with
    | true =>
      have HC := Lib.hid (contains_neg A al c w hra (by omega) true h1)
      generalize al.length = n at *
      generalize wh.length = m at *
      clear h hra hrw h1
      go_enter Try.func10, Try.ntmps10
      go_wp2_with fail
      refine HC.out.mono ?_
      rintro e w1 ⟨rfl, rfl⟩
      go_wp2_with fail
      go_ret2
      exact RetA.none 1 (Below.refl _ _)
    | false =>
      have h2 : ¬ Rises wh al.length := fun h2 => h (someG_not h0 h1 h2)
      have HC := Lib.hid (contains_neg A al c w hra (by omega) false h1)
      have HR := Lib.hid (rises_any W wh d al.length w (by omega) hrw (by omega) false (by simpa using h2))
      generalize al.length = n at *
      generalize wh.length = m at *
      clear h hra hrw h1 h2
      go_enter Try.func10, Try.ntmps10
      go_wp2_with fail
      refine HC.out.mono ?_
      rintro e w1 ⟨rfl, rfl⟩
      go_wp2_with fail
      refine HR.out.mono ?_
      rintro e w1 ⟨rfl, rfl⟩
      go_wp2_with fail
      go_ret2
      exact RetA.none 1 (Below.refl _ _)

set_option maxHeartbeats 2000000 in
set_option maxRecDepth 100000 in
theorem some_good (p : Int) (A W : Option Addr) (al wh : List Int) (c d : Nat) (w : World) (h : someG p al wh) (hp : I64 p) (hxa : ∀ x ∈ al, I64 x) (hra : Row w 0 A (ints al)) (hrw : Row w 0 W (ints wh)) (hl : al.length ≤ 1000000) (hm : wh.length ≤ 1000000) :
    Calls Try.prog 10 #[.int .i64 p, .slice A al.length c, .slice W wh.length d] w (RetA w (someV p al wh) (someE p al wh)) := by
  have hp0 : ¬ p < 0 := by have := h.1; omega
  have hneg : negA al = false := by
    unfold negA
    rw [List.any_eq_false]
    intro x hx
    have := h.2.1 x hx
    simpa using this
  have hri := h.2.2
  have HC := Lib.hid (contains_neg A al c w hra (by omega) false hneg)
  have HRI := Lib.hid (rises_any W wh d al.length w (by omega) hrw (by omega) true (by simpa using hri))
  have HRA := Lib.hid hra
  have HRW := Lib.hid hrw
  have HXA := Lib.hid hxa
  have HP := Lib.hid hp
  have HWR := Lib.hid hri.2.1
  have HPW := Lib.hid hri.2.2
  have hm1 : 1 ≤ wh.length := List.length_pos_iff.2 hri.1
  have hpos : 1 ≤ al.length := by
    obtain ⟨x, hx⟩ := List.exists_mem_of_ne_nil _ hri.1
    have := hri.2.1 x hx
    omega
  have HG := Lib.hid h
  obtain ⟨n, hn⟩ : ∃ n, al.length = n := ⟨_, rfl⟩
  obtain ⟨m, hmm⟩ : ∃ m, wh.length = m := ⟨_, rfl⟩
  have HN := Lib.hid hn
  have HM := Lib.hid hmm
  rw [hn] at hl hpos HRI ⊢
  rw [hmm] at hm hm1 HRI ⊢
  rw [hn] at HC
  have hmk := @run_makeMap Try.prog
  clear h hneg hri hra hrw hxa hp hn hmm
  go_enter Try.func10, Try.ntmps10
  go_wp2_with fail
  refine HC.out.mono ?_
  rintro e w1 ⟨rfl, rfl⟩
  go_wp2_with fail
  refine HRI.out.mono ?_
  rintro e w1 ⟨rfl, rfl⟩
  clear HC HRI
  go_wp2_with fail
  have hms := Lib.hid hmk
  clear hmk
  go_loopw [41] (fun i wr => ∃ (k : Nat) (D : DataW Unit), i = .int .i64 (k : Int) ∧ k ≤ n ∧ MapI w.heap.size k D wr ∧ Reads D (f1 al k) ∧ Below w.heap.size w wr) (fun i _ => n - (intOf i).toNat)
  case atStart => exact ⟨0, .map [], rfl, by omega, World.ownsMap_made _ _ _ _, Reads.made.congr (fun x _ => by unfold f1; rw [if_neg (by omega)]), alloc1 _ _⟩
  case round =>
    obtain ⟨k, D, rfl, hk, hown, hrd, hbe⟩ := hrel
    have HB := Lib.hid hbe
    have HRD := Lib.hid hrd
    clear hbe hrd
    have g0 : (0 : Int) ≤ (k : Int) := Int.natCast_nonneg _
    by_cases hlt : k < n
    · obtain ⟨ad, rfl, c0⟩ := int_cell (HRA.out.below HB.out) (j := k) (by rw [HN.out]; exact hlt)
      have g1 : (k : Int) < (n : Int) := by omega
      have hx : I64 (al.getD k 0) := HXA.out _ (by have : k < al.length := by rw [HN.out]; exact hlt
                                                   simp [List.getD_eq_getElem?_getD, this])
      have hst := fun x => f1_step al k x
      generalize al.getD k 0 = y at *
      have HST := Lib.hid hst
      have hwk := wf_int (a := (k : Int)) (by unfold I64; omega)
      have hwy := wf_int hx
      have HIM := Lib.hid hown.isMap
      clear hst
      go_wp2_with (at_mapUpdate; refine wpList_mapUpdate_own _ rfl _ _ _ 44 rfl 3 2 lawI Try.underlying44 _ w.heap.size k _ rfl hown (by unfold maxLen; omega) _ _ _ rfl rfl (Maps.keyOf_int_mk Try.underlying3 hwk) _ [] (plainElem_int Try.underlying2 hwy) ?_; intro w2 hown2 hg2; go_frame)
      go_roundw
      case rel => exact ⟨k + 1, _, by go_num, by omega, hown2, (HRD.out.put HIM.out _ _).congr (fun x _ => HST.out x), HB.out.grown hg2 HB.out.size (fun j hj => by cases hj; exact Nat.le_refl _)⟩
      case measure => simp only [intOf]; omega
    · obtain rfl : k = n := by omega
      have HRD := Lib.hid (HRD.out.congr (g := f2 al []) (fun x _ => by have := f2_zero al x; rw [HN.out] at this; exact this))
      clear hms
      go_wp2_with fail
      have HC := Lib.hid (AllW.mk (w0 := w) (out := []) (v := .slice none 0 0) (World.ownsRow_nil _ _ _ _) HB.out)
      have hown0 := hown
      go_loopw [12, 52] (fun v i wr => ∃ (j : Nat) (D : DataW Unit) (B : Option Addr) (cb : Nat), v = .slice B j cb ∧ i = .int .i64 (j : Int) ∧ j ≤ m ∧ MapI w.heap.size k D wr ∧ Reads D (f2 al (wh.take j)) ∧ AllW w (pick al (wh.take j)) v wr) (fun _ i _ => m - (intOf i).toNat)
      case atStart => exact ⟨0, D, none, 0, rfl, rfl, by omega, hown0, HRD.out, HC.out⟩
      case round =>
        clear HC HRD hown0 hown HB
        obtain ⟨j, D, Bo, cb, rfl, rfl, hj, hown, hrd, hc⟩ := hrel
        have HC := Lib.hid hc
        have HRD := Lib.hid hrd
        clear hc hrd
        have g2 : (0 : Int) ≤ (j : Int) := Int.natCast_nonneg _
        by_cases hjm : j < m
        · obtain ⟨wd, rfl, c0⟩ := int_cell (HRW.out.below HC.out.be) (j := j) (by rw [HM.out]; exact hjm)
          have g3 : (j : Int) < (m : Int) := by omega
          have hjl : j < wh.length := by rw [HM.out]; exact hjm
          have hw := HWR.out (wh.getD j 0) (by simp [List.getD_eq_getElem?_getD, hjl])
          rw [HN.out] at hw
          have hsn := pick_snoc al wh hjl
          have hst := fun x => f2_step al wh hjl x
          have hpl : (pick al (wh.take j)).length = j := by rw [pick_len, List.length_take]; omega
          obtain ⟨q, hq⟩ : ∃ q : Nat, wh.getD j 0 = (q : Int) := ⟨(wh.getD j 0).toNat, by omega⟩
          rw [hq] at c0 hsn hst hw
          have hqk : q < k := by omega
          obtain ⟨ad, rfl, c1⟩ := int_cell (HRA.out.below HC.out.be) (j := q) (by rw [HN.out]; exact hqk)
          have g4 : (0 : Int) ≤ (q : Int) := Int.natCast_nonneg _
          have g5 : (q : Int) < (k : Int) := by omega
          rw [Int.toNat_natCast] at hsn
          generalize al.getD q 0 = y at *
          have HSN := Lib.hid hsn
          have HST := Lib.hid hst
          have HPL := Lib.hid hpl
          have hwq := wf_int (a := (q : Int)) (by unfold I64; omega)
          have hb1' : (j + 1) * 8 ≤ 140737488355328 := by omega
          have hb2' : j + 1 ≤ maxLen := by unfold maxLen; omega
          have hsz : w.heap.size ≤ wr.heap.size := HC.out.be.size
          have OW := Lib.hid (show wr.ownsRow w.heap.size 2 1 (.slice Bo j cb) j (ints (pick al (wh.take j))) by have := HC.out.own; rw [HPL.out] at this; exact this)
          have HNE := Lib.hid (own_map_ne OW.out hown)
          clear hsn hst hpl hw hq hjl
          go_wp2_with (first
            | (at_builtin; refine wpList_app E_i64 rfl (.tmp 56) (.tmp 61) rfl rfl (OW.out.alloc _) ⟨wr.heap.size, 0, none⟩ 1 1 [.int .i64 y] rfl rfl (cell_one_new _ _ _) (one_cell _ _) hb1' hb2' (by simp; omega) (by decide) ?_; intro g cap w6 hown6 hg6 hat6; have HO6 := Lib.hid hown6; have HG6 := Lib.hid hg6; have hm6 := World.ownsMap.kept ((show MapI w.heap.size k D wr from hown).alloc _) hg6 (fun e => HNE.out _ e.symm rfl); clear hown6 hg6 hat6)
            | (at_delete; refine wpList_delete_own _ rfl _ _ 44 3 rfl 2 lawI Try.underlying44 _ w.heap.size k D rfl hm6 _ _ rfl (Maps.keyOf_int_mk Try.underlying3 hwq) ?_; intro w7 hown7 hturn7; go_frame))
          have HC6 : AllW w (pick al (wh.take (j + 1))) (.slice (some ⟨g, 0, none⟩) (j + 1) cap) w6 := by
            rw [HSN.out]
            exact HC.out.step (by rw [HPL.out]; exact HO6.out) (by have := HG6.out; exact this)
          have HC7 := Lib.hid (AllW.other HC6 hturn7.grown (fun g' hg' e => own_map_ne HC6.own hm6 g' hg' (by injection e)) (fun j hj => by cases hj; exact Nat.le_refl _))
          go_roundw
          case rel =>
            exact ⟨j + 1, _, _, _, rfl, by go_num, by omega, hown7, (HRD.out.del _).congr (fun x _ => HST.out x), HC7.out⟩
          case measure => simp only [intOf]; omega
        · obtain rfl : j = m := by omega
          have htk : wh.take j = wh := List.take_of_length_le (by rw [HM.out]; omega)
          rw [htk] at HC HRD
          have HPL := Lib.hid (show (pick al wh).length = j by rw [pick_len]; exact HM.out)
          obtain ⟨go, co, hv, hcap⟩ := HC.out.form HPL.out hm1
          injection hv with e1 _ e3
          subst e1 e3
          have hgo := (HC.out.own.lt go rfl).2
          clear htk
          go_wp2_with (at_range; refine wpList_range_own _ rfl _ 44 rfl 3 2 lawI Try.underlying44 _ w.heap.size k D rfl hown ?_; intro w8 hrg0 hg0 hs0)
          have HC8 := AllW.other HC.out hg0 (fun _ _ e => by cases e) (fun _ e => by cases e)
          have hmz := hown.size_le
          have hlst : sumF al.length (restF al wh (leftI (Maps.has D))) = 0 := rest_start fun i hi hni => HRD.out.has (by rw [HN.out] at hi; unfold I64; omega) (f2_in hi hni)
          have hB8 := HC8.be
          have HP8 := Lib.hid HC8
          have HB0 := Lib.hid (Nat.le_trans HC.out.be.size (Nat.le_refl wr.heap.size))
          clear HC8 hB8 HC hown
          generalize hR : wr.heap.size = R at *
          go_loopw [15] (fun v wr8 => ∃ (left : Lit → Bool) (cnt : Nat) (L : List Int) (B : Option Addr) (cr : Nat), v = .slice B L.length cr ∧ wr8.ranges Try.prog 3 (plainElem Try.prog 2) w.heap.size R k D left cnt ∧ AllW w (pick al wh) (.slice (some ⟨go, 0, none⟩) j cb) wr8 ∧ wr8.ownsRow (R + 1) 2 1 v L.length (ints L) ∧ L.length + cnt ≤ k ∧ (∀ x ∈ L, I64 x) ∧ L.sum = sumF al.length (restF al wh (leftI left)) ∧ R < wr8.heap.size) (fun _ wr8 => wr8.rangeLeft w.heap.size R)
          case atStart => exact ⟨_, _, [], none, 0, rfl, hrg0, HP8.out, World.ownsRow_nil _ _ _ _, by simpa using hmz, by simp, by rw [hlst]; rfl, by omega⟩
          case round =>
            clear hrg0 hg0 HP8 hlst hs0
            obtain ⟨left, cnt, L, Br, cr, rfl, hrg, hof, hol, hlc, hli, hls, hRw⟩ := hrel
            have HOF := Lib.hid hof
            have HOL := Lib.hid hol
            have HLI := Lib.hid hli
            have HLS := Lib.hid hls
            clear hof hol hli hls
            go_wp2_with (at_next; refine wpList_next_ranges_ii _ rfl _ rfl 3 2 .i64 .i64 lawI Try.underlying3 Try.underlying2 w.heap.size R k _ _ _ rfl hrg ?_ ?_)
            · intro _ hl0
              have hre := rest_pick al (leftI left) wh (fun x hx => HWR.out x hx) HPW.out (fun x => hl0 _)
              rw [← HLS.out] at hre
              have HRE := Lib.hid hre
              have HRL := Lib.hid ((Row.of_own HOL.out (by decide)).weak (Nat.zero_le _))
              clear hre HLS HOL hrg
              have hbL : L.length * 8 ≤ 140737488351232 := by omega
              have hll := left_is p Br L cr wr HP.out HLI.out HRL.out hbL
              rw [HRE.out] at hll
              obtain ⟨E0, hE0⟩ : ∃ E0, leftE p (al.sum - (pick al wh).sum) = E0 := ⟨_, rfl⟩
              obtain ⟨N0, hN0⟩ : ∃ N0, leftN p (al.sum - (pick al wh).sum) = N0 := ⟨_, rfl⟩
              have HLL := Lib.hid (hll N0 E0 ⟨hN0, hE0⟩)
              have HE0 := Lib.hid hE0
              have HN0 := Lib.hid hN0
              generalize L.length = z at *
              clear HRE HRL HLI hll hE0 hN0 hRw hlc hbL
              go_wp2_with fail
              refine HLL.out.mono ?_
              rintro e w10 ⟨rfl, hb10⟩
              have HB10 := Lib.hid hb10
              have HOF10 := Lib.hid (HOF.out.later hb10)
              clear hb10 HLL HOF
              by_cases hE : E0 = 0
              · have HE := Lib.hid hE
                by_cases hN : N0 < 0
                · have HN1 := Lib.hid hN
                  go_wp2_with fail
                  go_ret2
                  obtain ⟨e1, e2⟩ := some_neg HG.out (HE0.out.trans HE.out) (by rw [HN0.out]; exact HN1.out)
                  rw [e1, e2]
                  exact RetA.none 1 HOF10.out.be
                · have HN1 := Lib.hid hN
                  have hNI : I64 N0 := by have := leftN_I (o := p) (s := al.sum - (pick al wh).sum); rw [HN0.out] at this; exact this
                  have hPI : ∀ x ∈ pick al wh, I64 x := fun x hx => HXA.out x (pick_mem HWR.out hx)
                  have ho10 := HOF10.out.own
                  rw [HPL.out] at ho10
                  have hout := out_own N0 (some ⟨go, 0, none⟩) (pick al wh) cb w10 hNI hPI ((Row.of_own ho10 (by decide)).weak (Nat.zero_le _)) (by rw [HPL.out]; omega)
                  rw [HPL.out] at hout
                  by_cases hO : outE N0 (pick al wh) = 0
                  · have hgd := outV_good hO
                    have hvl := hgd.len
                    have hvi := hgd.I hNI
                    rw [HPL.out] at hvl
                    obtain ⟨e1, e2⟩ := some_ok HG.out (HE0.out.trans HE.out) (by rw [HN0.out]; exact HN1.out) (by rw [HN0.out]; exact hO)
                    rw [HN0.out] at e2
                    rw [hO] at hout
                    have HOUT := Lib.hid hout
                    have HS1 := Lib.hid e1
                    have HS2 := Lib.hid e2
                    have HVI := Lib.hid hvi
                    have HVL := Lib.hid hvl
                    clear hout hgd hO e1 e2 ho10 hvi hvl
                    generalize outV N0 (pick al wh) = V at *
                    go_wp2_with fail
                    refine HOUT.out.mono ?_
                    rintro e w11 hret
                    obtain ⟨B, cv, rfl, hrB, _, hb11⟩ := hret.toA (by rw [HVL.out]; omega)
                    rw [HVL.out]
                    have hbw : Below w.heap.size w w11 := HOF10.out.be.trans (hb11.mono HOF10.out.be.size)
                    have HRB := Lib.hid (hrB.weak (Nat.zero_le _))
                    have HBW := Lib.hid hbw
                    have hcl := sclone_any A al c w11 (by intro e; have := HN.out; rw [e] at this; simp at this; omega) (HRA.out.below hbw) (by rw [HN.out]; exact hl)
                    rw [HN.out] at hcl
                    have HCL := Lib.hid hcl
                    clear hcl hbw hrB hb11 hret HOUT
                    go_wp2_with fail
                    refine HCL.out.mono ?_
                    rintro e w12 ⟨v, rfl, hal⟩
                    obtain ⟨g, cap, rfl, hcap⟩ := hal.form HN.out hpos
                    have HAL := Lib.hid hal
                    clear hal HCL
                    go_wp2_with fail
                    go_loopw [102] (fun i wr => ∃ q : Nat, i = .int .i64 (q : Int) ∧ q ≤ j ∧ AllW w11 (lay al (wh.take q) (V.take q)) (.slice (some ⟨g, 0, none⟩) k cap) wr) (fun i _ => j - (intOf i).toNat)
                    case atStart => exact ⟨0, rfl, by omega, by simpa [lay] using HAL.out⟩
                    case round =>
                      clear HAL
                      obtain ⟨q, rfl, hq, ha⟩ := hrel
                      have HA := Lib.hid ha
                      clear ha
                      have g0 : (0 : Int) ≤ (q : Int) := Int.natCast_nonneg _
                      by_cases hlt : q < j
                      · obtain ⟨wd, rfl, c0⟩ := int_cell ((HRW.out.below HBW.out).below HA.out.be) (j := q) (by rw [HM.out]; exact hlt)
                        obtain ⟨vd, rfl, c1⟩ := int_cell (HRB.out.below HA.out.be) (j := q) (by rw [HVL.out]; exact hlt)
                        have hwl : q < wh.length := by rw [HM.out]; exact hlt
                        have hvl : q < V.length := by rw [HVL.out]; exact hlt
                        have ew : wh.getD q 0 = wh[q] := by simp [List.getD_eq_getElem?_getD, hwl]
                        have ev : V.getD q 0 = V[q] := by simp [List.getD_eq_getElem?_getD, hvl]
                        have hst := lay_snoc (wh.take q) al (V.take q) wh[q] V[q] (by rw [List.length_take, List.length_take, HM.out, HVL.out])
                        rw [← List.take_succ_eq_append_getElem hwl, ← List.take_succ_eq_append_getElem hvl, ← ew, ← ev] at hst
                        have hw := HWR.out (wh.getD q 0) (by rw [ew]; exact List.getElem_mem _)
                        rw [HN.out] at hw
                        obtain ⟨a, ha⟩ : ∃ a : Nat, wh.getD q 0 = (a : Int) := ⟨(wh.getD q 0).toNat, by omega⟩
                        rw [ha] at c0 hst hw
                        rw [Int.toNat_natCast] at hst
                        have hak : a < k := by omega
                        have HLN := Lib.hid (show (lay al (wh.take q) (V.take q)).length = k by rw [lay_len]; exact HN.out)
                        have f2 := HA.out.free HLN.out a
                        have f1 := HA.out.cell HLN.out hak
                        have g1 : (q : Int) < (j : Int) := by omega
                        have g2 : (0 : Int) ≤ (a : Int) := Int.natCast_nonneg _
                        have g3 : (a : Int) < (k : Int) := by omega
                        have HST := Lib.hid hst
                        generalize V.getD q 0 = y at *
                        generalize (lay al (wh.take q) (V.take q)).getD a 0 = y0 at *
                        clear hst hw ha ew ev hwl hvl
                        have HA6 := Lib.hid (HA.out.set HLN.out a y)
                        rw [← HST.out] at HA6
                        go_wp2_with fail
                        go_roundw
                        case rel => exact ⟨q + 1, by go_num, by omega, HA6.out⟩
                        case measure => simp only [intOf]; omega
                      · obtain rfl : q = j := by omega
                        have h1 : wh.take q = wh := List.take_of_length_le (by rw [HM.out]; omega)
                        have h2 : V.take q = V := List.take_of_length_le (by rw [HVL.out]; omega)
                        rw [h1, h2] at HA
                        clear h1 h2
                        go_wp2_with fail
                        go_ret2
                        rw [HS1.out, HS2.out]
                        exact ⟨_, rfl, all_inB HA.out HBW.out⟩
                  · obtain ⟨e1, e2⟩ := some_out HG.out (HE0.out.trans HE.out) (by rw [HN0.out]; exact HN1.out) (by rw [HN0.out]; exact hO)
                    rw [HN0.out] at e1
                    rw [outV_bad hO] at hout
                    have HOUT := Lib.hid hout
                    have HS1 := Lib.hid e1
                    have HS2 := Lib.hid e2
                    have HO := Lib.hid hO
                    clear hout hO e1 e2 ho10
                    generalize outE N0 (pick al wh) = E1 at *
                    go_wp2_with fail
                    refine HOUT.out.mono ?_
                    rintro e w11 ⟨B, cv, rfl, hrB, _, hb11, _⟩
                    have HB11 := Lib.hid hb11
                    have hne := HO.out
                    clear hrB hb11 HOUT
                    go_wp2_with fail
                    go_ret2
                    rw [HS1.out, HS2.out]
                    exact RetA.none E1 (HOF10.out.be.trans (HB11.out.mono HOF10.out.be.size))
              · have HE := Lib.hid hE
                go_wp2_with fail
                go_ret2
                obtain ⟨e1, e2⟩ := some_left HG.out (by rw [HE0.out]; exact HE.out)
                rw [e1, e2, show E0 = 3 by have := leftE_or p (al.sum - (pick al wh).sum); rw [HE0.out] at this; exact this.resolve_left HE.out]
                exact RetA.none 3 HOF10.out.be
            · intro x y w9 cnt1 hwx hwy hlx hat hrg1 hlt hg1 hs1 hen
              obtain ⟨x0, xn, xw, xv⟩ := f2_some (HRD.out.get (int_wf hwx) hat)
              have hst := rest_step (left := leftI left) (left' := leftI fun z => left z && !z.sameKey (.int .i64 x)) x0 xn xw hlx (leftI_same _ _) (fun z hz => leftI_other _ hz)
              rw [xv, ← HLS.out] at hst
              have HST := Lib.hid hst
              have HYI := Lib.hid (int_wf hwy)
              have hHOL := own_turn HOL.out hg1 (fun g hg e => by have := (HOL.out.lt g hg).1; injection e; omega)
              have hHOF := AllW.other HOF.out hg1 (fun g hg e => by simp only [Value.ownBlock, Option.some.injEq] at hg; injection e with e; omega) (fun z hz => by cases hz; exact HB0.out)
              have HOL9 := Lib.hid hHOL
              have HOF9 := Lib.hid hHOF
              obtain ⟨z, hz⟩ : ∃ z, L.length = z := ⟨_, rfl⟩
              have HZ := Lib.hid hz
              rw [hz] at hlc HOL9 ⊢
              have hb1' : (z + 1) * 8 ≤ 140737488355328 := by omega
              have hb2' : z + 1 ≤ maxLen := by unfold maxLen; omega
              have hsz : R + 1 ≤ w9.heap.size := by omega
              have HRG := Lib.hid hrg1
              have HM1 := Lib.hid (show wr.rangeLeft w.heap.size R = cnt from hrg.left_eq)
              clear hst x0 xn xw xv hHOL hHOF hz HOL HOF hs1 hrg hrg1
              go_wp2_with (at_builtin; refine wpList_app E_i64 rfl (.tmp 72) (.tmp 74) rfl rfl (HOL9.out.alloc _) ⟨w9.heap.size, 0, none⟩ 1 1 [.int .i64 y] rfl rfl (cell_one_new _ _ _) (one_cell _ _) hb1' hb2' (by simp; omega) (by decide) ?_; intro g cap w6 hown6 hg6 hat6; have HO6 := Lib.hid hown6; have HG6 := Lib.hid ((World.grownBy_alloc w9 (.cells #[.int .i64 y] 2) _).trans hg6); clear hown6 hg6 hat6)
              have hrk := HRG.out.kept HG6.out (fun e => by have h8 := (HOL9.out.lt _ e.symm).1; have h9 := HB0.out; omega) (fun e => by have h8 := (HOL9.out.lt _ e.symm).1; have h9 := HB0.out; omega)
              have hofk := AllW.other HOF9.out HG6.out (fun g hg e => by have h8 := (HOL9.out.lt _ e.symm).1; have h9 := HB0.out; simp only [Value.ownBlock, Option.some.injEq] at hg; omega) (fun j hj => by have h8 := (HOL9.out.lt _ hj).1; have h9 := HB0.out; omega)
              have hsz6 := HG6.out.size
              go_roundw
              case rel =>
                refine ⟨_, cnt1, L ++ [y], some ⟨g, 0, none⟩, cap, ?_, hrk, hofk, ?_, ?_, ?_, ?_, ?_⟩
                · rw [List.length_append, HZ.out]; rfl
                · have := HO6.out
                  rw [List.length_append, HZ.out, show ints (L ++ [y]) = ints L ++ [.int .i64 y] by simp [ints]]
                  exact this
                · rw [List.length_append, HZ.out, List.length_singleton]; omega
                · intro u hu
                  rcases List.mem_append.1 hu with hu | hu
                  · exact HLI.out u hu
                  · rw [List.mem_singleton.1 hu]; exact HYI.out
                · rw [List.sum_append, HST.out]; simp
                · omega
              case measure => rw [hrk.left_eq, HM1.out]; exact hlt
theorem some_any (p : Int) (A W : Option Addr) (al wh : List Int) (c d : Nat) (w : World) (hp : I64 p) (hxa : ∀ x ∈ al, I64 x) (hra : Row w 0 A (ints al)) (hrw : Row w 0 W (ints wh)) (hl : al.length ≤ 1000000) (hm : wh.length ≤ 1000000) :
    Calls Try.prog 10 #[.int .i64 p, .slice A al.length c, .slice W wh.length d] w (RetA w (someV p al wh) (someE p al wh)) := by
  by_cases h : someG p al wh
  · exact some_good p A W al wh c d w h hp hxa hra hrw hl hm
  · exact some_bad p A W al wh c d w h hra hrw hl hm
section
open Go.RowKit Go.Proofs.Ytkceeifhnohioaa.Cents Go.Proofs.Ytkceeifhnohioaa.CO Go.Proofs.Ytkceeifhnohioaa.Exact
set_option linter.unusedVariables false
set_option linter.unusedSimpArgs false

theorem litN (w : World) (cs : List Int) {o : Obj} : Row ((w.alloc o).alloc (.cells (ints cs).toArray 3)) 0 (some ⟨w.heap.size + 1, 0, none⟩) (ints cs) := by
  have := Row.of_blk (base := 0) (Blk.new (w.alloc o) 3 (ints cs).toArray) (Nat.zero_le _) rfl
  simpa using this
theorem litI2 (w : World) (cs : List Int) {o : Obj} : Row ((w.alloc o).alloc (.cells (ints cs).toArray 2)) 0 (some ⟨w.heap.size + 1, 0, none⟩) (ints cs) := by
  have := litI (w.alloc o) cs
  simpa using this
theorem some_is (p : Int) (A W : Option Addr) (al wh : List Int) (c d : Nat) (w : World) (hp : I64 p) (hxa : ∀ x ∈ al, I64 x) (hra : Row w 0 A (ints al)) (hrw : Row w 0 W (ints wh)) (hl : al.length ≤ 1000000) (hm : wh.length ≤ 1000000) (V : List Int) (E : Int) (h : someV p al wh = V ∧ someE p al wh = E) :
    Calls Try.prog 10 #[.int .i64 p, .slice A al.length c, .slice W wh.length d] w (RetL w V E) := by
  rw [← h.1, ← h.2]; exact (some_any p A W al wh c d w hp hxa hra hrw hl hm).mono fun _ _ h => h.toL
theorem again_is (t : Int) (D A : Option Addr) (d al : List Int) (cd c : Nat) (w : World) (ht : I64 t) (hd : d.length ≤ 1000000) (hl : al.length ≤ 1000000) (hxd : ∀ x ∈ d, I64 x) (hxa : ∀ x ∈ al, I64 x) (hrd : Row w 0 D (ints d)) (hra : Row w 0 A (ints al)) (V : List Int) (E : Int) (h : againV t d al = V ∧ againE t d al = E) :
    Calls Try.prog 14 #[.int .i64 t, .slice D d.length cd, .slice A al.length c] w (RetL w V E) := by
  rw [← h.1, ← h.2]; exact (again_any t D A d al cd c w ht hd hl hxd hxa hrd hra).mono fun _ _ h => h.toL
set_option maxHeartbeats 2000000 in
set_option maxRecDepth 100000 in
theorem awake13 (w : World) : Calls Try.prog 7 #[] w fun e w' => e = .returned (.bool true) ∧ Below w.heap.size w w' := by
  go_enter Try.func7, Try.ntmps7
  have BE := Lib.hid (Below.refl w.heap.size w)
  go_wp2_with fail
  refine (all_is (100) (some ⟨w.heap.size, 0, none⟩) [60, 60] 2 _ ⟨by decide, by decide⟩ (small (by decide)) (litI w [60, 60]) (by decide) [50, 50] 0 (by decide +kernel)).mono ?_
  rintro e w1 ⟨A1, c1, rfl, hr, hc, hb⟩
  have BE := Lib.hid (BE.out.alloc BE.out.size (.cells (ints [60, 60]).toArray 2))
  have BE := Lib.hid (BE.out.trans (hb.mono (by have := BE.out.size; simp at this ⊢ <;> omega)))
  have RA1 := Lib.hid (hr.weak (Nat.zero_le _))
  clear hr hc hb
  go_wp2_with fail
  refine (some_is (100) (some ⟨w1.heap.size, 0, none⟩) (some ⟨w1.heap.size + 1, 0, none⟩) [60, 60] [0] 2 1 _ ⟨by decide, by decide⟩ (small (by decide)) ((litI w1 [60, 60]).below (alloc1 _ _)) (litN _ [0]) (by decide) (by decide) [40, 60] 0 (by decide +kernel)).mono ?_
  rintro e w2 ⟨A2, c2, rfl, hr, hc, hb⟩
  have RA1 := Lib.hid (((RA1.out.below (alloc1 _ (.cells (ints [60, 60]).toArray 2))).below (alloc1 _ (.cells (ints [0]).toArray 3))).below hb)
  have BE := Lib.hid (BE.out.alloc BE.out.size (.cells (ints [60, 60]).toArray 2))
  have BE := Lib.hid (BE.out.alloc BE.out.size (.cells (ints [0]).toArray 3))
  have BE := Lib.hid (BE.out.trans (hb.mono (by have := BE.out.size; simp at this ⊢ <;> omega)))
  have RA2 := Lib.hid (hr.weak (Nat.zero_le _))
  clear hr hc hb
  go_wp2_with fail
  refine (disc_is (100) (some ⟨w2.heap.size, 0, none⟩) [60, 60] 2 _ ⟨by decide, by decide⟩ (by decide) (small (by decide)) (litI w2 [60, 60]) 20 0 (by decide)).mono ?_
  rintro e w3 ⟨rfl, hb⟩
  have RA1 := Lib.hid ((RA1.out.below (alloc1 _ (.cells (ints [60, 60]).toArray 2))).below hb)
  have RA2 := Lib.hid ((RA2.out.below (alloc1 _ (.cells (ints [60, 60]).toArray 2))).below hb)
  have BE := Lib.hid (BE.out.alloc BE.out.size (.cells (ints [60, 60]).toArray 2))
  have BE := Lib.hid (BE.out.trans (hb.mono (by have := BE.out.size; simp at this ⊢ <;> omega)))
  clear hb
  go_wp2_with fail
  refine (again_is (100) (some ⟨w3.heap.size, 0, none⟩) (some ⟨w3.heap.size + 1, 0, none⟩) [30, 10] [1, 2] 2 2 _ ⟨by decide, by decide⟩ (by decide) (by decide) (small (by decide)) (small (by decide)) ((litI w3 [30, 10]).below (alloc1 _ _)) (litI2 _ [1, 2]) [50, 50] 0 (by decide +kernel)).mono ?_
  rintro e w4 ⟨A4, c4, rfl, hr, hc, hb⟩
  have RA1 := Lib.hid (((RA1.out.below (alloc1 _ (.cells (ints [30, 10]).toArray 2))).below (alloc1 _ (.cells (ints [1, 2]).toArray 2))).below hb)
  have RA2 := Lib.hid (((RA2.out.below (alloc1 _ (.cells (ints [30, 10]).toArray 2))).below (alloc1 _ (.cells (ints [1, 2]).toArray 2))).below hb)
  have BE := Lib.hid (BE.out.alloc BE.out.size (.cells (ints [30, 10]).toArray 2))
  have BE := Lib.hid (BE.out.alloc BE.out.size (.cells (ints [1, 2]).toArray 2))
  have BE := Lib.hid (BE.out.trans (hb.mono (by have := BE.out.size; simp at this ⊢ <;> omega)))
  have RA4 := Lib.hid (hr.weak (Nat.zero_le _))
  clear hr hc hb
  go_wp2_with fail
  refine (some_is (50) (some ⟨w4.heap.size, 0, none⟩) (some ⟨w4.heap.size + 1, 0, none⟩) [60, 60] [0] 2 1 _ ⟨by decide, by decide⟩ (small (by decide)) ((litI w4 [60, 60]).below (alloc1 _ _)) (litN _ [0]) (by decide) (by decide) [] 1 (by decide +kernel)).mono ?_
  rintro e w5 ⟨A5, c5, rfl, hr, hc, hb⟩
  have RA1 := Lib.hid (((RA1.out.below (alloc1 _ (.cells (ints [60, 60]).toArray 2))).below (alloc1 _ (.cells (ints [0]).toArray 3))).below hb)
  have RA2 := Lib.hid (((RA2.out.below (alloc1 _ (.cells (ints [60, 60]).toArray 2))).below (alloc1 _ (.cells (ints [0]).toArray 3))).below hb)
  have RA4 := Lib.hid (((RA4.out.below (alloc1 _ (.cells (ints [60, 60]).toArray 2))).below (alloc1 _ (.cells (ints [0]).toArray 3))).below hb)
  have BE := Lib.hid (BE.out.alloc BE.out.size (.cells (ints [60, 60]).toArray 2))
  have BE := Lib.hid (BE.out.alloc BE.out.size (.cells (ints [0]).toArray 3))
  have BE := Lib.hid (BE.out.trans (hb.mono (by have := BE.out.size; simp at this ⊢ <;> omega)))
  clear hr hc hb
  go_wp2_with fail
  refine (all_is (-1) (some ⟨w5.heap.size, 0, none⟩) [1] 1 _ ⟨by decide, by decide⟩ (small (by decide)) (litI w5 [1]) (by decide) [] 1 (by decide +kernel)).mono ?_
  rintro e w6 ⟨A6, c6, rfl, hr, hc, hb⟩
  have RA1 := Lib.hid ((RA1.out.below (alloc1 _ (.cells (ints [1]).toArray 2))).below hb)
  have RA2 := Lib.hid ((RA2.out.below (alloc1 _ (.cells (ints [1]).toArray 2))).below hb)
  have RA4 := Lib.hid ((RA4.out.below (alloc1 _ (.cells (ints [1]).toArray 2))).below hb)
  have BE := Lib.hid (BE.out.alloc BE.out.size (.cells (ints [1]).toArray 2))
  have BE := Lib.hid (BE.out.trans (hb.mono (by have := BE.out.size; simp at this ⊢ <;> omega)))
  clear hr hc hb
  go_wp2_with fail
  refine (same_any A1 (some ⟨w6.heap.size, 0, none⟩) [50, 50] [50, 50] c1 2 _ (RA1.out.below (alloc1 _ (.cells (ints [50, 50]).toArray 2))) (litI w6 [50, 50]) (by decide) (by decide) true (by decide)).mono ?_
  rintro e w7 ⟨rfl, hb⟩
  have RA2 := Lib.hid ((RA2.out.below (alloc1 _ (.cells (ints [50, 50]).toArray 2))).below hb)
  have RA4 := Lib.hid ((RA4.out.below (alloc1 _ (.cells (ints [50, 50]).toArray 2))).below hb)
  have BE := Lib.hid (BE.out.alloc BE.out.size (.cells (ints [50, 50]).toArray 2))
  have BE := Lib.hid (BE.out.trans (hb.mono (by have := BE.out.size; simp at this ⊢ <;> omega)))
  clear hb
  go_wp2_with fail
  refine (same_any A2 (some ⟨w7.heap.size, 0, none⟩) [40, 60] [40, 60] c2 2 _ (RA2.out.below (alloc1 _ (.cells (ints [40, 60]).toArray 2))) (litI w7 [40, 60]) (by decide) (by decide) true (by decide)).mono ?_
  rintro e w8 ⟨rfl, hb⟩
  have RA4 := Lib.hid ((RA4.out.below (alloc1 _ (.cells (ints [40, 60]).toArray 2))).below hb)
  have BE := Lib.hid (BE.out.alloc BE.out.size (.cells (ints [40, 60]).toArray 2))
  have BE := Lib.hid (BE.out.trans (hb.mono (by have := BE.out.size; simp at this ⊢ <;> omega)))
  clear hb
  go_wp2_with fail
  refine (same_any A4 (some ⟨w8.heap.size, 0, none⟩) [50, 50] [50, 50] c4 2 _ (RA4.out.below (alloc1 _ (.cells (ints [50, 50]).toArray 2))) (litI w8 [50, 50]) (by decide) (by decide) true (by decide)).mono ?_
  rintro e w9 ⟨rfl, hb⟩
  have BE := Lib.hid (BE.out.alloc BE.out.size (.cells (ints [50, 50]).toArray 2))
  have BE := Lib.hid (BE.out.trans (hb.mono (by have := BE.out.size; simp at this ⊢ <;> omega)))
  clear hb
  go_wp2_with fail
  go_ret
  exact ⟨rfl, BE.out⟩
end
end
end Go.Proofs.Ytkceeifhnohioaa.PO
