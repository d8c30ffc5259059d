/- The walks of allot: All, left, rises, what is below 0, a clone, Again. -/
import Derived.Test.YtkceeifhnohioaaAllotMath
import Derived.Test.YtkceeifhnohioaaLaw02A
import Derived.Test.YtkceeifhnohioaaOwn
import Derived.Test.YtkceeifhnohioaaIs01
import Derived.Lib.SliceRun
namespace Go.Proofs.Ytkceeifhnohioaa.PO
open Go.RowKit Go.Proofs.Ytkceeifhnohioaa.Cents Go.Proofs.Ytkceeifhnohioaa.CO Go.Proofs.Ytkceeifhnohioaa.Exact
set_option linter.unusedVariables false
set_option linter.unusedSimpArgs false

/-- A list that the call made and owns, and why not. -/
def RetA (w : World) (l : List Int) (E : Int) (e : Ending) (w' : World) : Prop := ∃ v, e = .returned (.tuple #[v, .int .i64 E]) ∧ AllW w l v w'
theorem RetA.toL {w w' : World} {l : List Int} {E : Int} {e : Ending} (h : RetA w l E e w') : RetL w l E e w' := by
  obtain ⟨v, rfl, h⟩ := h
  obtain ⟨A, c, rfl, hc⟩ := own_slice h.own
  exact ⟨A, c, rfl, Row.of_own h.own (by decide), hc, h.be⟩
theorem RetA.none {w w' : World} (E : Int) (h : Below w.heap.size w w') : RetA w [] E (.returned (.tuple #[.slice none 0 0, .int .i64 E])) w' := ⟨_, rfl, ⟨World.ownsRow_nil _ _ _ _, h⟩⟩
theorem blk_own {w : World} {g base : Nat} {l : List Int} (h : Blk w g 2 (ints l).toArray) (hb : base ≤ g) (hl : l.length ≤ 1000000) : w.ownsRow base 2 1 (.slice (some ⟨g, 0, none⟩) l.length l.length) l.length (ints l) := by
  refine ⟨by simp [ints], .inr ⟨g, l.length, (ints l).toArray, rfl, hb, h, Nat.le_refl _, by unfold maxLen; omega, by simp [ints], List.take_of_length_le (by simp [ints])⟩⟩
theorem RetO.toA {w w' : World} {l : List Int} {E : Int} {e : Ending} (h : RetO w l E e w') (hl : l.length ≤ 1000000) : ∃ A c, e = .returned (.tuple #[.slice A l.length c, .int .i64 E]) ∧ Row w' w.heap.size A (ints l) ∧ (l ≠ [] → AllW w l (.slice A l.length c) w') ∧ Below w.heap.size w w' := by
  obtain ⟨A, c, rfl, h1, h2, h3, h4⟩ := h
  refine ⟨A, c, rfl, h1, fun hn => ?_, h3⟩
  rcases h4 with h4 | ⟨g, rfl, rfl, hg, hb⟩
  · exact absurd h4 hn
  · exact ⟨blk_own hb hg hl, h3⟩
theorem all_own (p : Int) (A : Option Addr) (al : List Int) (c : Nat) (w : World) (hT : I64 p) (hx : ∀ x ∈ al, I64 x) (hr : Row w 0 A (ints al)) (hl : al.length * 8 ≤ 140737488351232) :
    Calls Try.prog 8 #[.int .i64 p, .slice A al.length c] w (RetO w (allV p al) (allE p al)) := by
  by_cases h : p < 0
  · unfold allE allV
    rw [if_pos h, if_pos h]
    generalize al.length = n at *
    clear hx hr hl hT
    go_enter Try.func8, Try.ntmps8
    go_wp2_with fail
    go_ret2
    exact ⟨none, 0, rfl, Row.none_, by simp, Below.refl _ _, .inl rfl⟩
  · unfold allE allV
    rw [if_neg h, if_neg h]
    have HO := Lib.hid (out_own p A al c w hT hx hr hl)
    generalize outV p al = V at *
    generalize outE p al = E at *
    generalize al.length = n at *
    clear hx hr hl hT
    go_enter Try.func8, Try.ntmps8
    go_wp2_with fail
    refine HO.out.mono ?_
    rintro e w1 ⟨B, d, rfl, h1, h2, h3, h4⟩
    have H1 := Lib.hid h1
    have H2 := Lib.hid h2
    have H3 := Lib.hid h3
    have H4 := Lib.hid h4
    clear h1 h2 h3 h4
    go_wp2_with fail
    go_ret2
    exact ⟨B, d, rfl, H1.out, H2.out, H3.out, H4.out⟩
theorem all_is (p : Int) (A : Option Addr) (al : List Int) (c : Nat) (w : World) (hT : I64 p) (hx : ∀ x ∈ al, I64 x) (hr : Row w 0 A (ints al)) (hl : al.length * 8 ≤ 140737488351232) (V : List Int) (E : Int) (h : allV p al = V ∧ allE p al = E) :
    Calls Try.prog 8 #[.int .i64 p, .slice A al.length c] w (RetL w V E) := by
  rw [← h.1, ← h.2]; exact (all_own p A al c w hT hx hr hl).mono fun _ _ h => h.toL
theorem left_is (o : Int) (A : Option Addr) (xs : List Int) (c : Nat) (w : World) (ho : I64 o) (hx : ∀ x ∈ xs, I64 x) (hr : Row w 0 A (ints xs)) (hl : xs.length * 8 ≤ 140737488351232) (x y : Int) (h : leftN o xs.sum = x ∧ leftE o xs.sum = y) :
    Calls Try.prog 24 #[.int .i64 o, .slice A xs.length c] w fun e w' => e = .returned (.tuple #[.int .i64 x, .int .i64 y]) ∧ Below w.heap.size w w' := by
  by_cases hS : I64 xs.sum
  · have HS := Lib.hid (sum_is A xs c w xs.sum 0 hx hr hl ⟨by unfold sumN; rw [if_pos hS], by unfold sumE; rw [if_pos hS]⟩)
    have hle : fitN (o - xs.sum) = x ∧ fitE (o - xs.sum) = y := by
      rw [← h.1, ← h.2]
      unfold leftN leftE fitN fitE
      rw [if_pos hS]
      split <;> simp_all
    generalize xs.sum = S at *
    have HL := Lib.hid (fun W => less_is o S W ho hS x y hle)
    generalize xs.length = n at *
    clear hx hr hl h hle hS ho
    go_enter Try.func24, Try.ntmps24
    go_wp2_with fail
    refine HS.out.mono ?_
    rintro e w1 ⟨rfl, hb⟩
    have HB := Lib.hid hb
    clear hb
    go_wp2_with fail
    refine (HL.out _).mono ?_
    rintro e w2 ⟨rfl, rfl⟩
    go_wp2_with fail
    go_ret2
    exact ⟨rfl, HB.out⟩
  · have HS := Lib.hid (sum_is A xs c w 0 3 hx hr hl ⟨by unfold sumN; rw [if_neg hS], by unfold sumE; rw [if_neg hS]⟩)
    obtain ⟨h1, h2⟩ := h
    unfold leftN leftE at h1
    unfold leftE at h2
    rw [if_neg hS] at h1 h2
    rw [if_neg (by decide)] at h1
    subst h1 h2
    generalize xs.length = n at *
    clear hx hr hl hS ho
    go_enter Try.func24, Try.ntmps24
    go_wp2_with fail
    refine HS.out.mono ?_
    rintro e w1 ⟨rfl, hb⟩
    have HB := Lib.hid hb
    clear hb
    go_wp2_with fail
    go_ret2
    exact ⟨rfl, HB.out⟩

def risB (most : Int) : Int → List Int → Bool
  | _, [] => true
  | l, x :: wh => if x ≤ l ∨ most ≤ x then false else risB most x wh
theorem risB_iff (most : Int) : ∀ (wh : List Int) (l : Int), risB most l wh = true ↔ (∀ x ∈ wh, l < x ∧ x < most) ∧ wh.Pairwise (· < ·)
  | [], l => by simp [risB]
  | x :: wh, l => by
    unfold risB
    split
    · rename_i h
      constructor
      · intro h1; cases h1
      · rintro ⟨h1, _⟩; have := h1 x (by simp); omega
    · rename_i h
      rw [risB_iff most wh x, List.pairwise_cons]
      constructor
      · rintro ⟨h1, h2⟩
        refine ⟨fun y hy => ?_, fun y hy => (h1 y hy).1, h2⟩
        rcases List.mem_cons.1 hy with rfl | hy
        · omega
        · have := h1 y hy; omega
      · rintro ⟨h1, h2, h3⟩
        exact ⟨fun y hy => ⟨h2 y hy, (h1 y (by simp [hy])).2⟩, h3⟩
theorem rises_risB (wh : List Int) (most : Nat) : decide (Rises wh most) = (risB (most : Int) (-1) wh && decide (0 < wh.length)) := by
  rw [Bool.eq_iff_iff]
  simp only [decide_eq_true_eq, Bool.and_eq_true, risB_iff]
  unfold Rises
  constructor
  · rintro ⟨h1, h2, h3⟩
    exact ⟨⟨fun x hx => by have := h2 x hx; omega, h3⟩, List.length_pos_iff.2 h1⟩
  · rintro ⟨⟨h1, h2⟩, h3⟩
    exact ⟨List.length_pos_iff.1 h3, fun x hx => by have := h1 x hx; omega, h2⟩
theorem drop_at {l : List Int} {k : Nat} (h : k < l.length) : l.drop k = l.getD k 0 :: l.drop (k + 1) := by
  rw [List.drop_eq_getElem_cons h]
  simp [List.getD_eq_getElem?_getD, h]
set_option maxRecDepth 100000 in
theorem rises_any (A : Option Addr) (wh : List Int) (c most : Nat) (w : World) (hm : most ≤ 140737488351232) (hr : Row w 0 A (ints wh)) (hl : wh.length * 8 ≤ 140737488351232) (b : Bool) (hb : decide (Rises wh most) = b) :
    Calls Try.prog 23 #[.slice A wh.length c, .int .i64 (most : Int)] w fun e w' => e = .returned (.bool b) ∧ w = w' := by
  rw [rises_risB] at hb
  have HR := Lib.hid hr
  obtain ⟨n, hn⟩ : ∃ n, wh.length = n := ⟨_, rfl⟩
  rw [hn] at hl hb ⊢
  have HN := Lib.hid hn
  have HB := Lib.hid hb
  clear hr hb hn
  go_enter Try.func23, Try.ntmps23
  go_wp2_with fail
  go_loop [5, 10] (fun l i => ∃ (k : Nat) (p : Int), l = .int .i64 p ∧ i = .int .i64 (k : Int) ∧ k ≤ n ∧ risB (most : Int) p (wh.drop k) = risB (most : Int) (-1) wh) (fun _ i => n - (intOf i).toNat)
  case atStart => exact ⟨0, -1, rfl, rfl, by omega, rfl⟩
  case round =>
    obtain ⟨k, p, rfl, rfl, hk, hp⟩ := hrel
    have HP := Lib.hid hp
    clear hp
    have g0 : (0 : Int) ≤ (k : Int) := Int.natCast_nonneg _
    by_cases hlt : k < n
    · obtain ⟨ad, rfl, c0⟩ := int_cell HR.out (j := k) (by rw [HN.out]; exact hlt)
      have g1 : (k : Int) < (n : Int) := by omega
      have hd := drop_at (l := wh) (k := k) (by rw [HN.out]; exact hlt)
      generalize wh.getD k 0 = x at *
      have hp1 := HP.out
      rw [hd] at hp1
      simp only [risB] at hp1
      by_cases h1 : x ≤ p
      · rw [if_pos (.inl h1)] at hp1
        have HP1 := Lib.hid hp1
        clear hp1 hd
        go_wp2_with fail
        go_ret
        exact ⟨by rw [← HB.out, ← HP1.out]; rfl, rfl⟩
      · by_cases h2 : (most : Int) ≤ x
        · rw [if_pos (.inr h2)] at hp1
          have HP1 := Lib.hid hp1
          clear hp1 hd
          go_wp2_with fail
          go_ret
          exact ⟨by rw [← HB.out, ← HP1.out]; rfl, rfl⟩
        · rw [if_neg (by omega)] at hp1
          have HP1 := Lib.hid hp1
          clear hp1 hd
          go_wp2_with fail
          go_round
          case rel => exact ⟨k + 1, x, rfl, by go_num, by omega, HP1.out⟩
          case measure => simp [intOf]; omega
    · obtain rfl : k = n := by omega
      have hp1 := HP.out
      rw [List.drop_of_length_le (by rw [HN.out]; omega)] at hp1
      simp only [risB] at hp1
      have HP1 := Lib.hid hp1
      clear hp1
      by_cases h0 : 0 < k
      · have g2 : decide ((0 : Int) < (k : Int)) = true := by simp; omega
        go_wp2_with fail
        go_ret
        exact ⟨by rw [← HB.out, ← HP1.out]; simp [h0], rfl⟩
      · obtain rfl : k = 0 := by omega
        go_wp2_with fail
        go_ret
        exact ⟨by rw [← HB.out, ← HP1.out]; simp, rfl⟩

def negA (xs : List Int) : Bool := xs.any fun x => decide (x < 0)
theorem negA_take {xs : List Int} {j : Nat} (h : j < xs.length) : negA (xs.take (j + 1)) = (negA (xs.take j) || decide (xs.getD j 0 < 0)) := by
  unfold negA
  rw [List.take_succ_eq_append_getElem h, List.any_append]
  simp [List.getD_eq_getElem?_getD, h]
theorem neg_clo (x : Int) (w : World) (b : Bool) (hb : decide (x < 0) = b) : Calls Try.prog 21 #[.int .i64 x] w fun e w' => e = .returned (.bool b) ∧ w = w' := by
  have HB := Lib.hid hb
  clear hb
  go_enter Try.func21, Try.ntmps21
  go_wp2_with fail
  go_ret
  exact ⟨by rw [← HB.out]; rfl, rfl⟩
set_option maxHeartbeats 1000000 in
set_option maxRecDepth 100000 in
theorem index_neg (A : Option Addr) (xs : List Int) (c : Nat) (w : World) (hr : Row w 0 A (ints xs)) (hl : xs.length * 8 ≤ 140737488351232) (b : Bool) (hb : negA xs = b) :
    Calls Try.prog 38 #[.slice A xs.length c, .func (.func 21) #[] #[]] w (fun e w' => ∃ r : Int, e = .returned (.int .i64 r) ∧ decide (0 ≤ r) = b ∧ w = w') := by
  have HR := Lib.hid hr
  have HB := Lib.hid hb
  obtain ⟨n, hn⟩ : ∃ n, xs.length = n := ⟨_, rfl⟩
  rw [hn] at hl ⊢
  have HN := Lib.hid hn
  clear hr hb hn
  go_enter Try.func38, Try.ntmps38
  go_wp2_with fail
  go_loop [8] (fun v => ∃ (k : Nat), v = .int .i64 (k : Int) ∧ k ≤ n ∧ negA (xs.take k) = false) (fun v => n - (intOf v).toNat)
  case atStart => exact ⟨0, rfl, by omega, by simp [negA]⟩
  case round =>
    obtain ⟨k, rfl, hk, hany⟩ := hrel
    by_cases hlt : k < n
    · obtain ⟨ad, rfl, c0⟩ := int_cell HR.out (j := k) (by rw [HN.out]; exact hlt)
      have hta := negA_take (xs := xs) (j := k) (by rw [HN.out]; exact hlt)
      rw [hany, Bool.false_or] at hta
      have hm : xs.getD k 0 ∈ xs := by
        have : k < xs.length := by rw [HN.out]; exact hlt
        simp [List.getD_eq_getElem?_getD, this]
      generalize xs.getD k 0 = x at *
      have HT := Lib.hid hta
      have HM := Lib.hid hm
      have g0 : (0 : Int) ≤ (k : Int) := Int.natCast_nonneg _
      have g1 : (k : Int) < (n : Int) := by omega
      clear hany hta hm
      cases hbd : decide (x < 0) with
      | true =>
        have HBD := Lib.hid hbd
        clear hbd
        go_wp2_with fail
        refine (neg_clo x _ true HBD.out).mono ?_
        rintro e w2 ⟨rfl, rfl⟩
        go_wp2_with fail
        go_ret
        refine ⟨_, rfl, ?_, rfl⟩
        have hx : negA xs = true := by
          unfold negA
          rw [List.any_eq_true]
          exact ⟨_, HM.out, HBD.out⟩
        rw [← HB.out, hx]; simp
      | false =>
        have HBD := Lib.hid hbd
        clear hbd
        go_wp2_with fail
        refine (neg_clo x _ false HBD.out).mono ?_
        rintro e w2 ⟨rfl, rfl⟩
        go_wp2_with fail
        go_round
        case rel => exact ⟨k + 1, by go_num, by omega, by rw [HT.out]; exact HBD.out⟩
        case measure => simp only [intOf]; omega
    · obtain rfl : k = n := by omega
      have HF := Lib.hid (show negA xs = false by rw [← hany, List.take_of_length_le (by rw [HN.out]; omega)])
      clear hany
      go_wp2_with fail
      go_ret
      exact ⟨_, rfl, by rw [← HB.out, HF.out]; rfl, rfl⟩
theorem contains_neg (A : Option Addr) (xs : List Int) (c : Nat) (w : World) (hr : Row w 0 A (ints xs)) (hl : xs.length * 8 ≤ 140737488351232) (b : Bool) (hb : negA xs = b) :
    Calls Try.prog 22 #[.slice A xs.length c, .func (.func 21) #[] #[]] w fun e w' => e = .returned (.bool b) ∧ w = w' := by
  have HI := Lib.hid (index_neg A xs c w hr hl b hb)
  generalize xs.length = n at *
  clear hr hl hb
  go_enter Try.func22, Try.ntmps22
  go_wp2_with fail
  refine HI.out.mono ?_
  rintro e w1 ⟨r, rfl, hr, rfl⟩
  have HR := Lib.hid hr
  clear hr
  go_wp2_with fail
  go_ret
  exact ⟨by rw [← HR.out]; rfl, rfl⟩

theorem own_empty (w : World) (e size : Nat) (base : Nat) (h : base ≤ w.heap.size) : (w.alloc (.cells #[] e)).ownsRow base e size (.slice (some ⟨w.heap.size, 0, none⟩) 0 0) 0 [] := by
  refine ⟨by simp, .inr ⟨w.heap.size, 0, #[], rfl, h, heap_alloc_new w _, Nat.le_refl _, by unfold maxLen; omega, by simp, by simp⟩⟩
theorem sclone_any (A : Option Addr) (xs : List Int) (c : Nat) (w : World) (h0 : xs ≠ []) (hr : Row w 0 A (ints xs)) (hl : xs.length ≤ 1000000) :
    Calls Try.prog 25 #[.slice A xs.length c] w (fun e w' => ∃ v, e = .returned v ∧ AllW w xs v w') := by
  have hpos : 0 < (ints xs).length := by rw [ints_len]; exact List.length_pos_iff.2 h0
  obtain ⟨ad, rfl, _, hc⟩ := hr hpos
  have HC := Lib.hid (fun j u h => cell_below' (alloc1 w (.cells #[] 2)) (hc j u h))
  have HL := Lib.hid (show (ints xs).length = xs.length * 1 by rw [ints_len, Nat.mul_one])
  have HO := Lib.hid (own_empty w 2 1 w.heap.size (Nat.le_refl _))
  have h1 : 0 < xs.length := List.length_pos_iff.2 h0
  obtain ⟨n, hn⟩ : ∃ n, xs.length = n := ⟨_, rfl⟩
  have HN := Lib.hid hn
  rw [hn] at hl HL h1 ⊢
  have hb1 : (0 + n) * 8 ≤ 140737488355328 := by omega
  have hb2 : 0 + n ≤ maxLen := by unfold maxLen; omega
  have HE := Lib.run_eql_slice_nil (P := Try.prog) w 22 2 (some ad) n c 0 0 Try.underlying22
  clear h0 hpos hr hc hn
  go_enter Try.func25, Try.ntmps25
  go_wp2_with (at_builtin; refine wpList_app E_i64 rfl (.tmp 5) (.tmp 6) rfl rfl HO.out ad n c (ints xs) rfl HL.out HC.out (by simp [ints, Value.oneCell']) hb1 hb2 (by simp) h1 ?_; intro g cap w2 hown hg hat; have HO2 := Lib.hid hown; have HB2 := Lib.hid ((alloc1 w (.cells #[] 2)).grown hg (by simp) (fun j hj => by have := (HO.out.lt j hj).1; omega)); clear hown hg hat)
  go_ret
  have hown := HO2.out
  rw [Nat.zero_add, List.nil_append] at hown
  exact ⟨_, rfl, ⟨by rw [HN.out]; exact hown, HB2.out⟩⟩
section
open Go.RowKit Go.Proofs.Ytkceeifhnohioaa.Cents Go.Proofs.Ytkceeifhnohioaa.CO Go.Proofs.Ytkceeifhnohioaa.Exact
set_option linter.unusedVariables false
set_option linter.unusedSimpArgs false

theorem AllW.kept {w0 w w' : World} {out : List Int} {v : Value} (h : AllW w0 out v w) (hw : w' = w) : AllW w0 out v w' := by rw [hw]; exact h
theorem again_bad (t : Int) (D A : Option Addr) (d al : List Int) (cd c : Nat) (w : World) (h : d.length ≠ al.length) (hd : d.length ≤ 1000000) (hl : al.length ≤ 1000000) :
    Calls Try.prog 14 #[.int .i64 t, .slice D d.length cd, .slice A al.length c] w (RetA w (againV t d al) (againE t d al)) := by
  obtain ⟨h1, h2⟩ := again_len (t := t) h
  rw [h1, h2]
  generalize d.length = m at *
  generalize al.length = n at *
  have hb : ((m : Int) != (n : Int)) = true := by simp; omega
  have hb2 : decide ((m : Int) = (n : Int)) = false := by simp; omega
  clear h h1 h2
  go_enter Try.func14, Try.ntmps14
  go_wp2_with fail
  go_ret2
  exact RetA.none 1 (Below.refl _ _)
set_option maxHeartbeats 1000000 in
set_option maxRecDepth 100000 in
theorem again_same (t : Int) (D A : Option Addr) (d al : List Int) (cd c : Nat) (w : World) (ht : I64 t) (h : d.length = al.length) (hl : al.length ≤ 1000000) (hxd : ∀ x ∈ d, I64 x) (hxa : ∀ x ∈ al, I64 x) (hrd : Row w 0 D (ints d)) (hra : Row w 0 A (ints al)) :
    Calls Try.prog 14 #[.int .i64 t, .slice D d.length cd, .slice A al.length c] w (RetA w (againV t d al) (againE t d al)) := by
  have HRD := Lib.hid hrd
  have HRA := Lib.hid hra
  by_cases h2 : leftE t d.sum = 0
  · have HLE := Lib.hid (left_is t D d cd w ht hxd hrd (by omega) (leftN t d.sum) 0 ⟨rfl, h2⟩)
    by_cases h3 : outE (leftN t d.sum) al = 0
    · have HG := Lib.hid (outV_good h3)
      have hvI := HG.out.I leftN_I
      have hvl := HG.out.len
      have hn1 := (wE_ok (outE_ok h3).1).2.2.2.2
      have HOU := Lib.hid (fun w1 (hr : Row w1 0 A (ints al)) => out_own (leftN t d.sum) A al c w1 leftN_I hxa hr (by omega))
      have HAO := Lib.hid (fun k (hk : k < _) h4 => again_over (k := k) h h2 h3 hk h4)
      have HOK := Lib.hid (again_ok h h2 h3)
      rw [h3] at HOU
      clear h2 h3 HG
      generalize againV t d al = RV at *
      generalize againE t d al = RE at *
      generalize outV (leftN t d.sum) al = V at *
      generalize leftN t d.sum = N at *
      obtain ⟨n, hn⟩ : ∃ n, al.length = n := ⟨_, rfl⟩
      rw [hn] at h hl hvl hn1 HOU HOK ⊢
      rw [h] at HLE ⊢
      have HDN := Lib.hid h
      have HVN := Lib.hid hvl
      have HVI := Lib.hid hvI
      have HXD := Lib.hid hxd
      have HAN := Lib.hid hn
      clear h hvl hvI hxd hxa hrd hra hn
      go_enter Try.func14, Try.ntmps14
      go_wp2_with fail
      refine HLE.out.mono ?_
      rintro e w1 ⟨rfl, hb⟩
      have HB1 := Lib.hid hb
      clear hb
      go_wp2_with fail
      refine (HOU.out _ (HRA.out.below HB1.out)).mono ?_
      rintro e w2 hret
      obtain ⟨B, cb, rfl, _, hall, _⟩ := hret.toA (by rw [HVN.out]; omega)
      have hall2 := hall (fun e => by have := HVN.out; rw [e] at this; simp at this; omega)
      have hal3 : AllW w V (.slice B V.length cb) w2 := ⟨⟨hall2.own.1, hall2.own.2.imp id fun ⟨g, cap, cur, e, hb, r⟩ => ⟨g, cap, cur, e, Nat.le_trans HB1.out.size hb, r⟩⟩, HB1.out.trans (hall2.be.mono HB1.out.size)⟩
      rw [HVN.out] at hal3 ⊢
      obtain ⟨g, cap, hv, hcap⟩ := hal3.form HVN.out hn1
      injection hv with e1 _ e3
      subst e1 e3
      have HA := Lib.hid (show AllW w (mix V d 0) (.slice (some ⟨g, 0, none⟩) n cb) w2 by rw [mix_zero]; exact hal3)
      clear hret hall hall2 hal3 HOU HLE HB1
      go_wp2_with fail
      go_loopw [37] (fun i wr => ∃ k : Nat, i = .int .i64 (k : Int) ∧ k ≤ n ∧ (∀ i, i < k → I64 (V.getD i 0 + d.getD i 0)) ∧ AllW w (mix V d k) (.slice (some ⟨g, 0, none⟩) n cb) wr) (fun i _ => n - (intOf i).toNat)
      case atStart => exact ⟨0, rfl, by omega, fun i hi => by omega, HA.out⟩
      case round =>
        clear HA
        obtain ⟨k, rfl, hk, hok, ha⟩ := hrel
        have HK := Lib.hid hok
        have HA := Lib.hid ha
        clear hok ha
        have g0 : (0 : Int) ≤ (k : Int) := Int.natCast_nonneg _
        by_cases hlt : k < n
        · obtain ⟨dd, rfl, c0⟩ := int_cell (HRD.out.below HA.out.be) (j := k) (by rw [HDN.out]; exact hlt)
          have c1 := HA.out.cell (by rw [mix_len]; exact HVN.out) hlt
          have c2 := HA.out.free (by rw [mix_len]; exact HVN.out) k
          rw [mix_get (by rw [HVN.out]; exact hlt)] at c1
          have hst := mix_step (V := V) (d := d) (k := k) (by rw [HVN.out]; exact hlt)
          have g1 : (k : Int) < (n : Int) := by omega
          have hI := fun (X : List Int) (hX : ∀ y ∈ X, I64 y) i (hi : i < X.length) => (show I64 (X.getD i 0) by rw [List.getD_eq_getElem?_getD, List.getElem?_eq_getElem hi]; exact hX _ (List.getElem_mem _))
          have i1 := hI V HVI.out k (by rw [HVN.out]; exact hlt)
          have i2 := hI d HXD.out k (by rw [HDN.out]; exact hlt)
          have hov := HAO.out k (by rw [HVN.out]; exact hlt)
          have HKK := Lib.hid (fun (hi : I64 (V.getD k 0 + d.getD k 0)) i (hik : i < k + 1) => show I64 (V.getD i 0 + d.getD i 0) from by
            rcases Nat.lt_or_ge i k with q | q
            · exact HK.out i q
            · rw [show i = k by omega]; exact hi)
          generalize V.getD k 0 = x at *
          generalize d.getD k 0 = y at *
          have HST := Lib.hid hst
          have HOV := Lib.hid hov
          have HAL := Lib.hid HRD
          clear hI hst hov HK
          by_cases hs : I64 (x + y)
          · have HAD := Lib.hid (fun W' => add_is x y W' i1 i2 (x + y) 0 (by unfold fitN fitE; rw [if_pos hs, if_pos hs]; exact ⟨rfl, rfl⟩))
            have HS := Lib.hid hs
            clear i1 i2 hs
            go_wp2_with fail
            go_region_with ((go_at_call 18; refine (HAD.out _).mono ?_; rintro e w5 ⟨rfl, hw5⟩; have HA5 := Lib.hid (show AllW w (mix V d k) (.slice (some ⟨g, 0, none⟩) n cb) w5 from hw5 ▸ (HA.out.drewN 1)); have f1 := HA5.out.cell (by rw [mix_len]; exact HVN.out) hlt; have f2 := HA5.out.free (by rw [mix_len]; exact HVN.out) k; clear hw5))
            all_goals
              have HA6 := HA5.out.set (by rw [mix_len]; exact HVN.out) k (x + y)
              rw [HST.out] at HA6
              have HA6 := Lib.hid HA6
              go_wp2_with fail
              go_roundw
              case rel => exact ⟨k + 1, by go_num, by omega, HKK.out HS.out, HA6.out⟩
              case measure => simp only [intOf]; omega
          · have HAD := Lib.hid (fun W' => add_is x y W' i1 i2 0 3 (by unfold fitN fitE; rw [if_neg hs, if_neg hs]; exact ⟨rfl, rfl⟩))
            have HS := Lib.hid (HOV.out hs)
            clear i1 i2 hs
            go_wp2_with fail
            go_region_with ((go_at_call 18; refine (HAD.out _).mono ?_; rintro e w5 ⟨rfl, hw5⟩; have HA5 := Lib.hid (show AllW w (mix V d k) (.slice (some ⟨g, 0, none⟩) n cb) w5 from hw5 ▸ (HA.out.drewN 1)); have f1 := HA5.out.cell (by rw [mix_len]; exact HVN.out) hlt; have f2 := HA5.out.free (by rw [mix_len]; exact HVN.out) k; clear hw5))
            all_goals
              have HA6 := Lib.hid (HA5.out.set (by rw [mix_len]; exact HVN.out) k 0)
              go_wp2_with fail
              go_ret2
              rw [HS.out.1, HS.out.2]
              exact RetA.none 3 HA6.out.be
        · obtain rfl : k = n := by omega
          go_wp2_with fail
          go_ret2
          obtain ⟨h1, h2⟩ := HOK.out (by rw [HVN.out]; exact HK.out)
          rw [h1, h2]
          refine ⟨_, rfl, ?_⟩
          exact HA.out
    · have HOU := Lib.hid (fun w1 (hr : Row w1 0 A (ints al)) => out_is (leftN t d.sum) A al c w1 leftN_I hxa hr (by omega) [] (outE (leftN t d.sum) al) ⟨outV_bad h3, rfl⟩)
      obtain ⟨h4, h5⟩ := again_out h h2 h3
      rw [h4, h5]
      generalize outE (leftN t d.sum) al = E at *
      generalize leftN t d.sum = N at *
      have hE : (E != 0) = true := by simpa using h3
      rw [h] at HLE ⊢
      generalize al.length = n at *
      clear h h2 h3 h4 h5 hxd hxa hrd hra
      go_enter Try.func14, Try.ntmps14
      go_wp2_with fail
      refine HLE.out.mono ?_
      rintro e w1 ⟨rfl, hb⟩
      have HB1 := Lib.hid hb
      clear hb
      go_wp2_with fail
      refine (HOU.out _ (HRA.out.below HB1.out)).mono ?_
      rintro e w2 ⟨B, cb, rfl, _, _, hb⟩
      have HB2 := Lib.hid (HB1.out.trans (hb.mono HB1.out.size))
      clear hb
      go_wp2_with fail
      go_ret2
      exact RetA.none _ HB2.out
  · have h3 := (leftE_or t d.sum).resolve_left h2
    have HLE := Lib.hid (left_is t D d cd w ht hxd hrd (by omega) (leftN t d.sum) 3 ⟨rfl, h3⟩)
    obtain ⟨h4, h5⟩ := again_left h h2
    rw [h4, h5]
    generalize leftN t d.sum = N at *
    rw [h] at HLE ⊢
    generalize al.length = n at *
    clear h h2 h3 h4 h5 hxd hxa hrd hra
    go_enter Try.func14, Try.ntmps14
    go_wp2_with fail
    refine HLE.out.mono ?_
    rintro e w1 ⟨rfl, hb⟩
    have HB1 := Lib.hid hb
    clear hb
    go_wp2_with fail
    go_ret2
    exact RetA.none _ HB1.out
theorem again_any (t : Int) (D A : Option Addr) (d al : List Int) (cd c : Nat) (w : World) (ht : I64 t) (hd : d.length ≤ 1000000) (hl : al.length ≤ 1000000) (hxd : ∀ x ∈ d, I64 x) (hxa : ∀ x ∈ al, I64 x) (hrd : Row w 0 D (ints d)) (hra : Row w 0 A (ints al)) :
    Calls Try.prog 14 #[.int .i64 t, .slice D d.length cd, .slice A al.length c] w (RetA w (againV t d al) (againE t d al)) := by
  by_cases h : d.length = al.length
  · exact again_same t D A d al cd c w ht h hl hxd hxa hrd hra
  · exact again_bad t D A d al cd c w h hd hl
end
section
open Go.RowKit Go.Proofs.Ytkceeifhnohioaa.Cents Go.Proofs.Ytkceeifhnohioaa.CO Go.Proofs.Ytkceeifhnohioaa.Exact
set_option linter.unusedVariables false
set_option linter.unusedSimpArgs false

theorem wpList_none {P : Program} {w : World} {t e size bytes : Nat} (hE : ElemT P t e size bytes) {ops : Array Oper} {rest : List Oper} {o : Oper} {a : Act} {Q : Exit → Act → World → Prop} (hgd : o.guard = none) (s x : Operand)
    (ho : o.op = .call { callee := .builtin .append, args := #[s, x], argTypes := #[t, t] }) {A B : Option Addr} {n c d : Nat} (hs : a.eval s = .slice A n c) (hx : a.eval x = .slice B 0 d) (hn : n ≤ c)
    (h : wpList P ops Q rest (a.put o.dst (.slice A n c)) w) : wpList P ops Q (o :: rest) a w := by
  obtain ⟨i, z, hu, hi, hz, hsz, hby, hzs, hpos⟩ := hE.ex
  refine wpList_plain hgd fun _ hK => ?_
  unfold Oper.wp execOp
  simp only [ho, resolve, invoke, builtin, Sem.run_bind, Sem.run_pure, Result.andThen_ok, List.map_toArray, List.map_cons, List.map_nil, hs, hx, run_append_none w hu hi A B n c d hn]
  exact hK _ _ h
theorem lit_own {w : World} {g base : Nat} {x : Int} (h : Blk w g 2 #[.int .i64 x]) (hb : base ≤ g) : w.ownsRow base 2 1 (.slice (some ⟨g, 0, none⟩) 1 1) 1 [.int .i64 x] :=
  ⟨by simp, .inr ⟨g, 1, #[.int .i64 x], rfl, hb, h, Nat.le_refl _, by unfold maxLen; omega, by simp, by simp⟩⟩
/-- 'append([]int64{x}, l...)'. -/
theorem wpList_pre {w : World} {ops : Array Oper} {rest : List Oper} {o : Oper} {a : Act} {Q : Exit → Act → World → Prop} (hgd : o.guard = none) (s x : Operand)
    (ho : o.op = .call { callee := .builtin .append, args := #[s, x], argTypes := #[22, 22] }) {g base n c : Nat} {v : Int} {A : Option Addr} {al : List Int} (hs : a.eval s = .slice (some ⟨g, 0, none⟩) 1 1) (hb : Blk w g 2 #[.int .i64 v]) (hg : base ≤ g)
    (hx : a.eval x = .slice A n c) (hn : al.length = n) (hr : Row w 0 A (ints al)) (hl : n ≤ 1000000)
    (h : ∀ B cap w', Row w' 0 B (ints (v :: al)) → Below base w w' → wpList Try.prog ops Q rest (a.put o.dst (.slice B (1 + n) cap)) w') : wpList Try.prog ops Q (o :: rest) a w := by
  have ho2 := lit_own hb hg
  have hbl : base ≤ w.heap.size := Nat.le_trans hg (Nat.le_of_lt hb.lt)
  by_cases h0 : n = 0
  · subst h0
    obtain rfl := List.length_eq_zero_iff.1 hn
    refine wpList_none E_i64 hgd s x ho hs hx (Nat.le_refl _) ?_
    exact h _ _ _ ((Row.of_own ho2 (by decide)).weak (Nat.zero_le _)) (Below.refl _ _)
  · obtain ⟨ad, rfl, _, hc⟩ := hr (by rw [ints_len]; omega)
    refine wpList_app E_i64 hgd s x ho hs ho2 ad n c (ints al) hx (by rw [ints_len]; omega) hc (by simp [ints, Value.oneCell']) (by omega) (by unfold maxLen; omega) hbl (by omega) ?_
    intro g2 cap w' hown hgrow _
    refine h _ _ _ ((Row.of_own (xs := ints (v :: al)) hown (by decide)).weak (Nat.zero_le _)) ((Below.refl _ _).grown hgrow hbl (fun j hj => ?_))
    simp [Value.ownBlock] at hj
    omega
set_option maxRecDepth 100000 in
theorem disc_plain (p : Int) (A : Option Addr) (al : List Int) (c : Nat) (w : World) (hp : I64 p) (h0 : p ≠ -9223372036854775808) (hl : al.length ≤ 1000000) (hx : ∀ x ∈ al, I64 x) (hr : Row w 0 A (ints al)) (x y : Int) (h : fitN (al.sum - p) = x ∧ fitE (al.sum - p) = y) :
    Calls Try.prog 12 #[.int .i64 p, .slice A al.length c] w fun e w' => e = .returned (.tuple #[.int .i64 x, .int .i64 y]) ∧ Below w.heap.size w w' := by
  have HR := Lib.hid hr
  unfold I64 at hp
  have hs2 : (-p :: al).sum = al.sum - p := by rw [List.sum_cons]; omega
  have HS := Lib.hid (fun B cap w' (hrow : Row w' 0 B (ints (-p :: al))) => sum_is B (-p :: al) cap w' x y (fun z hz => by
    rcases List.mem_cons.1 hz with rfl | hz
    · unfold I64; omega
    · exact hx z hz) hrow (by rw [List.length_cons]; omega) (by rw [hs2]; exact h))
  obtain ⟨n, hn⟩ : ∃ n, al.length = n := ⟨_, rfl⟩
  have HN := Lib.hid hn
  rw [List.length_cons, hn, Nat.add_comm n 1] at HS
  rw [hn] at hl ⊢
  have hw : IntKind.i64.wrap (-p) = -p := IntWalk.i64_in _ (by omega)
  have hb : (p == -9223372036854775808) = false := by simpa using h0
  have hb2 : decide (p = -9223372036854775808) = false := by simpa using h0
  clear hr hx h hs2 hn
  go_enter Try.func12, Try.ntmps12
  go_wp2_with (at_builtin; refine wpList_pre rfl (.tmp 15) (.tmp 16) rfl (base := w.heap.size) rfl (Blk.new w 2 _) (Nat.le_refl _) rfl HN.out (HR.out.below (alloc1 w _)) hl ?_; intro B cap w2 hrow hbel; have HRW := Lib.hid hrow; have HB := Lib.hid ((alloc1 w (.cells #[.int .i64 (-p)] 2)).trans (hbel.mono (Nat.le_refl _))); clear hrow hbel)
  refine (HS.out _ _ _ HRW.out).mono ?_
  rintro e w3 ⟨rfl, hb⟩
  have HB2 := Lib.hid (HB.out.trans (hb.mono HB.out.size))
  clear hb
  go_wp2_with fail
  go_ret2
  exact ⟨rfl, HB2.out⟩
set_option maxRecDepth 100000 in
theorem disc_least (A : Option Addr) (al : List Int) (c : Nat) (w : World) (hl : al.length ≤ 500000) (hx : ∀ x ∈ al, I64 x) (hr : Row w 0 A (ints al)) (x y : Int) (h : fitN (al.sum - -9223372036854775808) = x ∧ fitE (al.sum - -9223372036854775808) = y) :
    Calls Try.prog 12 #[.int .i64 (-9223372036854775808), .slice A al.length c] w fun e w' => e = .returned (.tuple #[.int .i64 x, .int .i64 y]) ∧ Below w.heap.size w w' := by
  have HR := Lib.hid hr
  have hs2 : (9223372036854775807 :: 1 :: al).sum = al.sum - -9223372036854775808 := by rw [List.sum_cons, List.sum_cons]; omega
  have HS := Lib.hid (fun B cap w' (hrow : Row w' 0 B (ints (9223372036854775807 :: 1 :: al))) => sum_is B (9223372036854775807 :: 1 :: al) cap w' x y (fun z hz => by
    rcases List.mem_cons.1 hz with rfl | hz
    · unfold I64; omega
    · rcases List.mem_cons.1 hz with rfl | hz
      · unfold I64; omega
      · exact hx z hz) hrow (by rw [List.length_cons, List.length_cons]; omega) (by rw [hs2]; exact h))
  obtain ⟨n, hn⟩ : ∃ n, al.length = n := ⟨_, rfl⟩
  have HN := Lib.hid hn
  have HN1 := Lib.hid (show ((1 : Int) :: al).length = 1 + n by rw [List.length_cons, hn]; omega)
  rw [List.length_cons, List.length_cons, hn, show n + 1 + 1 = 1 + (1 + n) by omega] at HS
  rw [hn] at hl ⊢
  have hl1 : 1 + n ≤ 1000000 := by omega
  clear hr hx h hs2 hn
  go_enter Try.func12, Try.ntmps12
  go_wp2_with (first
    | (at_builtin; refine wpList_pre rfl (.tmp 8) (.tmp 9) rfl (base := w.heap.size) rfl (Blk.new w 2 _) (Nat.le_refl _) rfl HN.out (HR.out.below (alloc1 w _)) (by omega) ?_; intro B cap w2 hrow hbel; have HRW := Lib.hid hrow; have HB := Lib.hid ((alloc1 w (.cells #[.int .i64 1] 2)).trans (hbel.mono (Nat.le_refl _))); clear hrow hbel)
    | (at_builtin; refine wpList_pre rfl (.tmp 15) (.tmp 16) rfl (base := w2.heap.size) rfl (Blk.new w2 2 _) (Nat.le_refl _) rfl HN1.out (HRW.out.below (alloc1 w2 _)) (by omega) ?_; intro B3 cap3 w3 hrow hbel; have HRW3 := Lib.hid hrow; have HB3 := Lib.hid (HB.out.trans (((alloc1 w2 (.cells #[.int .i64 9223372036854775807] 2)).trans (hbel.mono (Nat.le_refl _))).mono HB.out.size)); clear hrow hbel))
  refine (HS.out _ _ _ HRW3.out).mono ?_
  rintro e w4 ⟨rfl, hb⟩
  have HB4 := Lib.hid (HB3.out.trans (hb.mono HB3.out.size))
  clear hb
  go_wp2_with fail
  go_ret2
  exact ⟨rfl, HB4.out⟩
theorem disc_is (p : Int) (A : Option Addr) (al : List Int) (c : Nat) (w : World) (hp : I64 p) (hl : al.length ≤ 500000) (hx : ∀ x ∈ al, I64 x) (hr : Row w 0 A (ints al)) (x y : Int) (h : fitN (al.sum - p) = x ∧ fitE (al.sum - p) = y) :
    Calls Try.prog 12 #[.int .i64 p, .slice A al.length c] w fun e w' => e = .returned (.tuple #[.int .i64 x, .int .i64 y]) ∧ Below w.heap.size w w' := by
  by_cases h0 : p = -9223372036854775808
  · subst h0; exact disc_least A al c w hl hx hr x y h
  · exact disc_plain p A al c w hp h0 (by omega) hx hr x y h
end
end Go.Proofs.Ytkceeifhnohioaa.PO
