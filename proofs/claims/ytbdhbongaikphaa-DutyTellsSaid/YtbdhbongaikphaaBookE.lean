/- The walks of a book's New: is an item wrong, a clone of items. -/
import Derived.Test.YtbdhbongaikphaaBookW
import Derived.Test.YtbdhbongaikphaaBookD
import Derived.Lib.SliceRun
namespace Go.Proofs.Ytbdhbongaikphaa.BK
open Go.RowKit Go.Proofs.Ytbdhbongaikphaa.Cents
set_option linter.unusedVariables false
set_option linter.unusedSimpArgs false

def anyW (l : List It) : Bool := l.any wrongI
theorem take_anyw {xs : List It} {j : Nat} (h : j < xs.length) : anyW (xs.take (j + 1)) = (anyW (xs.take j) || wrongI (itAt xs j)) := by
  unfold anyW
  rw [List.take_succ_eq_append_getElem h, List.any_append]
  simp [itAt, List.getD_eq_getElem?_getD, h]
theorem itAt_mem {xs : List It} {j : Nat} (h : j < xs.length) : itAt xs j ∈ xs := by
  unfold itAt
  rw [List.getD_eq_getElem?_getD, List.getElem?_eq_getElem h]
  exact List.getElem_mem h
def IxRet (w : World) (b : Bool) (e : Ending) (w' : World) : Prop := ∃ r : Int, e = .returned (.int .i64 r) ∧ decide (0 ≤ r) = b ∧ Below w.heap.size w w'
set_option maxHeartbeats 1000000 in
set_option maxRecDepth 100000 in
theorem index_any (A : Option Addr) (xs : List It) (c : Nat) (w : World) (hr : Row w 0 A (icells xs)) (hl : xs.length ≤ 1000000) (b : Bool) (hb : anyW xs = b) :
    Calls Try.prog 34 #[.slice A xs.length c, .func (.func 18) #[] #[]] w (IxRet w b) := by
  have HR := Lib.hid hr
  have HB := Lib.hid hb
  obtain ⟨n, hn⟩ : ∃ n, xs.length = n := ⟨_, rfl⟩
  rw [hn] at hl ⊢
  have HN := Lib.hid hn
  clear hr hb hn
  go_enter Try.func34, Try.ntmps34
  go_wp2_with fail
  go_loopw [8] (fun v wr => ∃ (k : Nat), v = .int .i64 (k : Int) ∧ k ≤ n ∧ anyW (xs.take k) = false ∧ Below w.heap.size w wr) (fun v _ => n - (intOf v).toNat)
  case atStart => exact ⟨0, rfl, by omega, by simp [anyW], Below.refl _ _⟩
  case round =>
    obtain ⟨k, rfl, hk, hany, hbe⟩ := hrel
    by_cases hlt : k < n
    · obtain ⟨ad, rfl, c0, c1, c2, c3⟩ := i_cells (HR.out.below hbe) (j := k) (by rw [HN.out]; exact hlt)
      have hta := take_anyw (xs := xs) (j := k) (by rw [HN.out]; exact hlt)
      have hmem := itAt_mem (xs := xs) (j := k) (by rw [HN.out]; exact hlt)
      obtain ⟨m, hm⟩ : ∃ m, itAt xs k = m := ⟨_, rfl⟩
      rw [hm] at c0 c1 c2 c3 hta hmem
      obtain ⟨t1, t2, t3, t4⟩ := m
      dsimp only at c0 c1 c2 c3
      rw [hany, Bool.false_or] at hta
      have HT := Lib.hid hta
      have HBE := Lib.hid hbe
      have HM := Lib.hid hmem
      have g0 : (0 : Int) ≤ (k : Int) := Int.natCast_nonneg _
      have g1 : (k : Int) < (n : Int) := by omega
      clear hany hta hbe hm hmem
      cases hbd : wrongI ⟨t1, t2, t3, t4⟩ with
      | true =>
        have HBD := Lib.hid hbd
        clear hbd
        go_wp2_with fail
        refine (wrong_any ⟨t1, t2, t3, t4⟩ _ true HBD.out).mono ?_
        rintro e w2 ⟨rfl, hb2⟩
        have HB2 := Lib.hid (HBE.out.trans (hb2.mono HBE.out.size))
        clear hb2
        go_wp2_with fail
        go_ret
        refine ⟨_, rfl, ?_, HB2.out⟩
        have hx : anyW xs = true := by
          unfold anyW
          rw [List.any_eq_true]
          exact ⟨_, HM.out, HBD.out⟩
        rw [← HB.out, hx]; simp
      | false =>
        have HBD := Lib.hid hbd
        clear hbd
        go_wp2_with fail
        refine (wrong_any ⟨t1, t2, t3, t4⟩ _ false HBD.out).mono ?_
        rintro e w2 ⟨rfl, hb2⟩
        have HB2 := Lib.hid (HBE.out.trans (hb2.mono HBE.out.size))
        clear hb2
        go_wp2_with fail
        go_roundw
        case rel => exact ⟨k + 1, by go_num, by omega, by rw [HT.out]; exact HBD.out, HB2.out⟩
        case measure => simp only [intOf]; omega
    · obtain rfl : k = n := by omega
      have HBE := Lib.hid hbe
      have HF := Lib.hid (show anyW xs = false by rw [← hany, List.take_of_length_le (by rw [HN.out]; omega)])
      clear hbe hany
      go_wp2_with fail
      go_ret
      exact ⟨_, rfl, by rw [← HB.out, HF.out]; rfl, HBE.out⟩
theorem contains_any (A : Option Addr) (xs : List It) (c : Nat) (w : World) (hr : Row w 0 A (icells xs)) (hl : xs.length ≤ 1000000) (b : Bool) (hb : anyW xs = b) :
    Calls Try.prog 17 #[.slice A xs.length c, .func (.func 18) #[] #[]] w fun e w' => e = .returned (.bool b) ∧ Below w.heap.size w w' := by
  have HI := Lib.hid (index_any A xs c w hr hl b hb)
  generalize xs.length = n at *
  clear hr hl hb
  go_enter Try.func17, Try.ntmps17
  go_wp2_with fail
  refine HI.out.mono ?_
  rintro e w1 ⟨r, rfl, hr, hb1⟩
  have HR := Lib.hid hr
  have HB1 := Lib.hid hb1
  clear hr hb1
  go_wp2_with fail
  go_ret
  exact ⟨by rw [← HR.out]; rfl, HB1.out⟩
theorem info_it : (Try.prog.info? 50).map (fun i => (i.zero, i.size, i.bytes)) = some (some (.agg #[.int .i64 0, .int .i64 0, .int .i64 0, .int .i64 0]), 4, 32) := by kernel_rfl
theorem E_it : ElemT Try.prog 22 50 4 32 := .mk' Try.underlying22 info_it rfl (by decide)
theorem icells_len (l : List It) : (icells l).length = l.length * 4 := flat_len it_len l
theorem icells_one (l : List It) : ∀ u ∈ icells l, u.oneCell' = true := by
  intro u hu
  unfold icells at hu
  rw [List.mem_flatMap] at hu
  obtain ⟨p, _, hp⟩ := hu
  simp [It.cell] at hp
  rcases hp with rfl | rfl | rfl | rfl <;> rfl
theorem own_empty (w : World) (e size : Nat) (base : Nat) (h : base ≤ w.heap.size) : (w.alloc (.cells #[] e)).ownsRow base e size (.slice (some ⟨w.heap.size, 0, none⟩) 0 0) 0 [] := by
  refine ⟨by simp, .inr ⟨w.heap.size, 0, #[], rfl, h, heap_alloc_new w _, Nat.le_refl _, by unfold maxLen; omega, by simp, by simp⟩⟩
theorem wpList_app0 {P : Program} {w : World} {t e size bytes : Nat} (hE : ElemT P t e size bytes) {ops : Array Oper} {rest : List Oper} {o : Oper} {a : Act} {Q : Exit → Act → World → Prop} (hgd : o.guard = none) (s x : Operand)
    (ho : o.op = .call { callee := .builtin .append, args := #[s, x], argTypes := #[t, t] }) {A B : Option Addr} {n c d : Nat} (hs : a.eval s = .slice A n c) (hx : a.eval x = .slice B 0 d) (hn : n ≤ c)
    (h : wpList P ops Q rest (a.put o.dst (.slice A n c)) w) : wpList P ops Q (o :: rest) a w := by
  obtain ⟨i, z, hu, hi, hz, hsz, hby, hzs, hpos⟩ := hE.ex
  refine wpList_plain hgd fun _ hK => ?_
  unfold Oper.wp execOp
  simp only [ho, resolve, invoke, builtin, Sem.run_bind, Sem.run_pure, Result.andThen_ok, List.map_toArray, List.map_cons, List.map_nil, hs, hx, run_append_none w hu hi A B n c d hn]
  exact hK _ _ h
def CloneRet (w : World) (its : List It) (e : Ending) (w' : World) : Prop := ∃ B c, e = .returned (.slice B its.length c) ∧ Row w' w.heap.size B (icells its) ∧ its.length ≤ c ∧ Below w.heap.size w w'
theorem clone_any (A : Option Addr) (its : List It) (c : Nat) (w : World) (hr : Row w 0 A (icells its)) (hl : its.length ≤ 1000000) :
    Calls Try.prog 19 #[.slice A its.length c] w (CloneRet w its) := by
  by_cases h0 : its = []
  · subst h0
    simp only [List.length_nil]
    clear hr hl
    cases A with
    | none =>
      have HE := Lib.run_eql_slice_nil (P := Try.prog) w 22 50 none 0 c 0 0 Try.underlying22
      go_enter Try.func19, Try.ntmps19
      go_wp2_with fail
      go_ret
      exact ⟨none, 0, rfl, Row.none_, by simp, Below.refl _ _⟩
    | some ad =>
      have HE := Lib.run_eql_slice_nil (P := Try.prog) w 22 50 (some ad) 0 c 0 0 Try.underlying22
      go_enter Try.func19, Try.ntmps19
      go_wp2_with (at_builtin; refine wpList_app0 E_it rfl (.tmp 5) (.tmp 6) rfl rfl rfl (Nat.le_refl 0) ?_)
      go_ret
      exact ⟨some ⟨w.heap.size, 0, none⟩, 0, rfl, fun h => absurd h (by simp [icells]), by simp, alloc1 _ _⟩
  · have hpos : 0 < (icells its).length := by rw [icells_len]; have := List.length_pos_iff.2 h0; omega
    obtain ⟨ad, rfl, _, hc⟩ := hr hpos
    have HC := Lib.hid (fun j u h => cell_below' (alloc1 w (.cells #[] 50)) (hc j u h))
    have HL := Lib.hid (icells_len its)
    have HO := Lib.hid (own_empty w 50 4 w.heap.size (Nat.le_refl _))
    have h1 : 0 < its.length := List.length_pos_iff.2 h0
    obtain ⟨n, hn⟩ : ∃ n, its.length = n := ⟨_, rfl⟩
    have HN := Lib.hid hn
    rw [hn] at hl HL h1 ⊢
    have hb1 : (0 + n) * 32 ≤ 140737488355328 := by omega
    have hb2 : 0 + n ≤ maxLen := by unfold maxLen; omega
    have HE := Lib.run_eql_slice_nil (P := Try.prog) w 22 50 (some ad) n c 0 0 Try.underlying22
    clear h0 hpos hr hc hn
    go_enter Try.func19, Try.ntmps19
    go_wp2_with (at_builtin; refine wpList_app E_it rfl (.tmp 5) (.tmp 6) rfl rfl HO.out ad n c (icells its) rfl HL.out HC.out (icells_one _) hb1 hb2 (by simp) h1 ?_; intro g cap w2 hown hg hat; have HO2 := Lib.hid hown; have HB2 := Lib.hid ((alloc1 w (.cells #[] 50)).grown hg (by simp) (fun j hj => by have := (HO.out.lt j hj).1; omega)); clear hown hg hat)
    go_ret
    have hown := HO2.out
    rw [Nat.zero_add, List.nil_append] at hown
    refine ⟨some ⟨g, 0, none⟩, cap, ?_, Row.of_own hown (by decide), ?_, HB2.out⟩
    · rw [HN.out]; simp
    · rw [HN.out]; exact own_le hown
end Go.Proofs.Ytbdhbongaikphaa.BK
