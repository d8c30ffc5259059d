/- The walk of portion.Out. -/
import Derived.Test.YtkceeifhnohioaaPortionA
import Derived.Deep.RegionHeld3
namespace Go.Proofs.Ytkceeifhnohioaa.PO
open Go.RowKit Go.Proofs.Ytkceeifhnohioaa.Cents
set_option linter.unusedVariables false
set_option linter.unusedSimpArgs false

/-- A row that a call made, and why not. -/
def RetL (w : World) (l : List Int) (E : Int) (e : Ending) (w' : World) : Prop := ∃ A c, e = .returned (.tuple #[.slice A l.length c, .int .i64 E]) ∧ Row w' w.heap.size A (ints l) ∧ l.length ≤ c ∧ Below w.heap.size w w'
/-- .. and that it is its own block. -/
def RetO (w : World) (l : List Int) (E : Int) (e : Ending) (w' : World) : Prop := ∃ A c, e = .returned (.tuple #[.slice A l.length c, .int .i64 E]) ∧ Row w' w.heap.size A (ints l) ∧ l.length ≤ c ∧ Below w.heap.size w w' ∧ (l = [] ∨ ∃ g, A = some ⟨g, 0, none⟩ ∧ c = l.length ∧ w.heap.size ≤ g ∧ Blk w' g 2 (ints l).toArray)
theorem RetO.toL {w w' : World} {l : List Int} {E : Int} {e : Ending} (h : RetO w l E e w') : RetL w l E e w' := by
  obtain ⟨A, c, h1, h2, h3, h4, _⟩ := h
  exact ⟨A, c, h1, h2, h3, h4⟩
theorem RetL.nilO {w w' : World} {E : Int} {e : Ending} (h : RetL w [] E e w') : RetO w [] E e w' := by
  obtain ⟨A, c, h1, h2, h3, h4⟩ := h
  exact ⟨A, c, h1, h2, h3, h4, .inl rfl⟩
theorem made_i64 (w : World) (n : Nat) (hn : n ≤ 1000000) : (Instr.makeSlice 22 (.int .i64 (n : Int)) (.int .i64 (n : Int))).run Try.prog w = .ok (.slice (some ⟨w.heap.size, 0, none⟩) n n) (w.alloc (.cells (ints (List.replicate n 0)).toArray 2)) := by
  obtain ⟨i, h1, h2, h3, h4⟩ := info_parts info_i64
  have := run_makeSlice (P := Try.prog) w _ _ i _ Try.underlying22 h1 h2 .i64 .i64 (n : Int) (n : Int) (by omega) (by omega) (by rw [h3]; simp; omega) (by rw [h4]; omega) (by omega)
  rw [this, h3]
  simp only [Int.toNat_natCast, Nat.mul_one]
  have e : madeCells (Value.int .i64 0).cells n = (ints (List.replicate n 0)).toArray := by
    apply Array.ext
    · simp [madeCells, ints]
    · intro j h1 h2
      simp [madeCells, ints, Value.cells, Nat.mod_one]
  rw [e]

set_option maxHeartbeats 1000000 in
set_option maxRecDepth 100000 in
theorem out_bad (T : Int) (A : Option Addr) (ws : List Int) (c : Nat) (w : World) (hT : I64 T) (hx : ∀ x ∈ ws, I64 x) (hr : Row w 0 A (ints ws)) (hl : ws.length * 8 ≤ 140737488351232) (e0 : Int) (he : outE T ws = e0) (hne : e0 ≠ 0) :
    Calls Try.prog 19 #[.int .i64 T, .slice A ws.length c] w (RetL w [] e0) := by
  unfold outE at he
  by_cases h : wE ws = 0
  · rw [if_pos h] at he
    by_cases h2 : T = -9223372036854775808
    · rw [if_pos h2] at he
      have HW := Lib.hid (wrong_any A ws c w hx hr hl ws.sum 0 ⟨by unfold wN; rw [if_pos h], h⟩)
      have HLE := Lib.hid (fun W => less_no 0 T W ⟨by decide, by decide⟩ hT (by unfold I64; omega))
      have HE := Lib.hid he
      generalize ws.sum = S at HW
      generalize ws.length = n at *
      clear hx hr h h2 he
      go_enter Try.func19, Try.ntmps19
      go_wp2_with fail
      refine HW.out.mono ?_
      rintro e w1 ⟨rfl, hb⟩
      have HB := Lib.hid hb
      clear hb
      go_wp2_with fail
      refine (HLE.out _).mono ?_
      rintro e w2 ⟨rfl, rfl⟩
      go_wp2_with fail
      go_ret2
      exact ⟨none, 0, by rw [← HE.out]; rfl, Row.none_, by simp, HB.out⟩
    · rw [if_neg h2] at he; exact absurd he.symm hne
  · rw [if_neg h] at he
    have hb0 : (e0 != 0) = true := by simpa using hne
    have HW := Lib.hid (wrong_any A ws c w hx hr hl 0 e0 ⟨by unfold wN; rw [if_neg h], he⟩)
    generalize ws.length = n at *
    clear hx hr h he
    go_enter Try.func19, Try.ntmps19
    go_wp2_with fail
    refine HW.out.mono ?_
    rintro e w1 ⟨rfl, hb⟩
    have HB := Lib.hid hb
    clear hb
    go_wp2_with fail
    go_ret2
    exact ⟨none, 0, rfl, Row.none_, by simp, HB.out⟩

theorem getD_take_end {l : List Int} {n : Nat} (h : l.length = n) {o : List Int} (ho : o.length = n) (he : ∀ i, i < n → o.getD i 0 = l.getD i 0) : o = l := by
  apply List.ext_getElem
  · rw [h, ho]
  · intro i h1 h2
    have := he i (by rw [← ho]; exact h1)
    simpa [List.getD_eq_getElem?_getD, h1, h2] using this
theorem sum_take_succ (l : List Int) {k : Nat} (h : k < l.length) : (l.take (k + 1)).sum = (l.take k).sum + l.getD k 0 := by
  rw [List.take_succ_eq_append_getElem h, List.sum_append]
  simp [List.getD_eq_getElem?_getD, h]
theorem sum_take_le {l : List Int} (h : ∀ i, i < l.length → 0 ≤ l.getD i 0) (k : Nat) : 0 ≤ (l.take k).sum ∧ (l.take k).sum ≤ l.sum := by
  induction l generalizing k with
  | nil => simp
  | cons x l ih =>
    have h0 := h 0 (by simp)
    have ht : ∀ i, i < l.length → 0 ≤ l.getD i 0 := fun i hi => by simpa using h (i + 1) (by simpa using hi)
    have hs := sum_nonneg ht
    simp only [List.getD_cons_zero] at h0
    cases k with
    | zero => simp; omega
    | succ k =>
      have := ih ht k
      simp only [List.take_succ_cons, List.sum_cons]; omega

theorem Inv.le {p r o q : List Int} {n j : Nat} (h : Inv p r o q n j) (hp : ∀ i, i < p.length → 0 ≤ p.getD i 0) {i : Nat} (hi : i < n) : 0 ≤ o.getD i 0 ∧ o.getD i 0 ≤ p.sum + j := by
  have ho : ∀ i, i < o.length → 0 ≤ o.getD i 0 := fun i hi => by
    rw [h.lo] at hi
    have := hp i (by rw [h.lp]; exact hi)
    rcases h.each i hi with e | e <;> omega
  have := le_sum ho i (by rw [h.lo]; exact hi)
  rw [h.sum] at this
  exact ⟨ho i (by rw [h.lo]; exact hi), this⟩
/-- The first z of o negated. -/
def negs (o : List Int) (z : Nat) : List Int := (o.take z).map (fun x => -x) ++ o.drop z
theorem negs_zero (o : List Int) : negs o 0 = o := by simp [negs]
theorem negs_all {o : List Int} {n : Nat} (h : o.length = n) : negs o n = o.map (fun x => -x) := by subst h; simp [negs]
theorem negs_len (o : List Int) (z : Nat) : (negs o z).length = o.length := by simp [negs]; omega
theorem negs_get {o : List Int} {z : Nat} (h : z < o.length) : (negs o z).getD z 0 = o.getD z 0 := by
  unfold negs
  rw [List.getD_eq_getElem?_getD, List.getElem?_append_right (by simp; omega), List.getD_eq_getElem?_getD]
  have : z - ((o.take z).map (fun x => -x)).length = 0 := by simp; omega
  rw [this, List.getElem?_drop, Nat.add_zero]
theorem negs_step {o : List Int} {z : Nat} (h : z < o.length) : (negs o z).set z (-(o.getD z 0)) = negs o (z + 1) := by
  unfold negs
  have hl : ((o.take z).map (fun x => -x)).length = z := by simp; omega
  rw [List.set_append_right _ _ (by omega), hl, Nat.sub_self, List.take_succ_eq_append_getElem h, List.map_append, List.append_assoc]
  congr 1
  rw [List.drop_eq_getElem_cons h, List.set_cons_zero]
  simp [List.getD_eq_getElem?_getD, h]
end Go.Proofs.Ytkceeifhnohioaa.PO
