/- The walk of quitrentref09.Same. -/
import Derived.Test.YtmijcgcppankcaaNetB
namespace Go.Proofs.Ytmijcgcppankcaa.Net
open Go.RowKit Go.Proofs.Ytmijcgcppankcaa.Cents
set_option linter.unusedVariables false
set_option linter.unusedSimpArgs false

theorem take_end {α : Type} {l : List α} {j : Nat} (h : j < l.length) : l.take (j + 1) = l.take j ++ [l[j]] := by
  induction l generalizing j with
  | nil => simp at h
  | cons x l ih =>
    cases j with
    | zero => simp
    | succ j => simp only [List.take_succ_cons, List.cons_append, List.getElem_cons_succ]; rw [ih (by simpa using h)]
theorem post_len (x : Post) : x.cells.length = 3 := rfl
theorem cells_at {xs : List Post} {j : Nat} (h : j < xs.length) (i : Nat) (hi : i < 3) : (cells xs)[j * 3 + i]? = xs[j].cells[i]? := by
  induction xs generalizing j with
  | nil => simp at h
  | cons x xs ih =>
    cases j with
    | zero => simp only [cells, List.flatMap_cons]; rw [List.getElem?_append_left (by rw [post_len]; omega)]; simp
    | succ j =>
      simp only [cells, List.flatMap_cons]
      rw [List.getElem?_append_right (by rw [post_len]; omega), post_len, show (j + 1) * 3 + i - 3 = j * 3 + i by omega]
      simpa [cells] using ih (j := j) (by simpa using h)
/-- The three cells of a posting in a row. -/
theorem Row.post {w : World} {base : Nat} {A : Option Addr} {xs : List Post} (hr : Row w base A (cells xs)) {j : Nat} (h : j < xs.length) :
    ∃ ad, A = some ad ∧ base ≤ ad.block ∧ w.cell? (ad.add (j * 3)) = some (.int .i64 xs[j].acc) ∧ w.cell? ⟨(ad.add (j * 3)).block, (ad.add (j * 3)).off + 1, none⟩ = some (.int .i64 xs[j].ct) ∧ w.cell? ⟨(ad.add (j * 3)).block, (ad.add (j * 3)).off + 2, none⟩ = some (.int .i64 xs[j].amt) := by
  obtain ⟨ad, e, hb, hc⟩ := hr (by rw [cells_len]; omega)
  have step : ∀ i, 0 < i → (ad.add (j * 3)).add i = ⟨(ad.add (j * 3)).block, (ad.add (j * 3)).off + i, none⟩ := by
    intro i hi
    generalize ad.add (j * 3) = p
    unfold Addr.add
    rw [if_neg (by omega)]
  refine ⟨ad, e, hb, ?_, ?_, ?_⟩
  · have := hc (j * 3 + 0) _ (cells_at h 0 (by omega))
    exact this
  · have := hc (j * 3 + 1) _ (cells_at h 1 (by omega))
    rw [← add_add, step 1 (by omega)] at this
    exact this
  · have := hc (j * 3 + 2) _ (cells_at h 2 (by omega))
    rw [← add_add, step 2 (by omega)] at this
    exact this

def SameRet (w : World) (b : Bool) (e : Ending) (w' : World) : Prop := e = .returned (.bool b) ∧ Quiet w w'

set_option maxHeartbeats 2000000 in
set_option maxRecDepth 100000 in
theorem same_any (A B : Option Addr) (ca cb : Nat) (xs ys : List Post) (w : World) (hx : Row w 0 A (cells xs)) (hy : Row w 0 B (cells ys)) (lx : xs.length ≤ 1000) (ly : ys.length ≤ 1000) (b : Bool) (hb : decide (xs = ys) = b) :
    Calls Try.prog 24 #[.slice A xs.length ca, .slice B ys.length cb] w (SameRet w b) := by
  have HB := Lib.hid hb
  clear hb
  have HX := Lib.hid hx
  have HY := Lib.hid hy
  clear hx hy
  by_cases hl : xs.length = ys.length
  · obtain ⟨n, hn⟩ : ∃ n, xs.length = n := ⟨_, rfl⟩
    have hn2 : ys.length = n := by omega
    rw [hn] at lx
    rw [hn, hn2]
    have HN := Lib.hid hn
    have HN2 := Lib.hid hn2
    clear hl ly hn hn2
    go_enter Try.func24, Try.ntmps24
    go_wp2_with fail
    go_loopw [5] (fun i wr => ∃ (j : Nat), i = .int .i64 (j : Int) ∧ j ≤ n ∧ Quiet w wr ∧ xs.take j = ys.take j) (fun i _ => n - (intOf i).toNat)
    case atStart => exact ⟨0, rfl, Nat.zero_le _, Quiet.refl _, rfl⟩
    case round =>
      obtain ⟨j, rfl, hj, hq, ht⟩ := hrel
      by_cases hlt : j < n
      · obtain ⟨ax, rfl, _, x0, x1, x2⟩ := Row.post HX.out (j := j) (by rw [HN.out]; exact hlt)
        obtain ⟨ay, rfl, _, y0, y1, y2⟩ := Row.post HY.out (j := j) (by rw [HN2.out]; exact hlt)
        obtain ⟨px, hpx⟩ : ∃ p, p = xs[j]'(by rw [HN.out]; exact hlt) := ⟨_, rfl⟩
        obtain ⟨py, hpy⟩ : ∃ p, p = ys[j]'(by rw [HN2.out]; exact hlt) := ⟨_, rfl⟩
        rw [← hpx] at x0 x1 x2
        rw [← hpy] at y0 y1 y2
        obtain ⟨d, rfl⟩ := hq
        rcases px with ⟨p0, p1, p2⟩
        rcases py with ⟨q0, q1, q2⟩
        dsimp only at x0 x1 x2 y0 y1 y2
        have hto : xs.take (j + 1) = xs.take j ++ [⟨p0, p1, p2⟩] := by rw [hpx]; exact take_end _
        have htp : ys.take (j + 1) = ys.take j ++ [⟨q0, q1, q2⟩] := by rw [hpy]; exact take_end _
        have HT := Lib.hid hto
        have HTP := Lib.hid htp
        have HTT := Lib.hid ht
        clear hto htp ht hpx hpy
        by_cases hpq : (⟨p0, p1, p2⟩ : Post) = ⟨q0, q1, q2⟩
        · injection hpq with e0 e1 e2
          subst e0 e1 e2
          go_wp2_with fail
          go_region_with fail
          all_goals
            go_wp2_with fail
            go_roundw
            case rel => exact ⟨j + 1, by go_num, by omega, ⟨d + 1, rfl⟩, by rw [HT.out, HTP.out, HTT.out]⟩
            case measure => simp only [intOf]; omega
        · have HPQ := Lib.hid hpq
          have hne : (p0 == q0 && (p1 == q1 && p2 == q2)) = false := by
            simp only [Bool.and_eq_false_iff, beq_eq_false_iff_ne]
            by_cases a0 : p0 = q0
            · by_cases a1 : p1 = q1
              · exact .inr (.inr fun a2 => hpq (by rw [a0, a1, a2]))
              · exact .inr (.inl a1)
            · exact .inl a0
          clear hpq
          by_cases e0 : p0 = q0
          · subst e0
            by_cases e1 : p1 = q1
            · subst e1
              have e2 : (p2 == q2) = false := by simpa using hne
              clear hne
              go_wp2_with fail
              go_region_with fail
              all_goals
                have hd : decide (xs = ys) = false := by
                  simp only [decide_eq_false_iff_not]
                  rintro rfl
                  have := HT.out.symm.trans HTP.out
                  rw [List.append_cancel_left_eq] at this
                  exact HPQ.out (by simpa using this)
                go_wp2_with fail
                go_ret
                exact ⟨by rw [← HB.out, hd]; rfl, ⟨d + 1, rfl⟩⟩
            · have e2 : (p1 == q1) = false := by simpa using e1
              clear hne e1
              go_wp2_with fail
              go_region_with fail
              all_goals
                have hd : decide (xs = ys) = false := by
                  simp only [decide_eq_false_iff_not]
                  rintro rfl
                  have := HT.out.symm.trans HTP.out
                  rw [List.append_cancel_left_eq] at this
                  exact HPQ.out (by simpa using this)
                go_wp2_with fail
                go_ret
                exact ⟨by rw [← HB.out, hd]; rfl, ⟨d + 1, rfl⟩⟩
          · have e2 : (p0 == q0) = false := by simpa using e0
            clear hne e0
            go_wp2_with fail
            go_region_with fail
            all_goals
              have hd : decide (xs = ys) = false := by
                simp only [decide_eq_false_iff_not]
                rintro rfl
                have := HT.out.symm.trans HTP.out
                rw [List.append_cancel_left_eq] at this
                exact HPQ.out (by simpa using this)
              go_wp2_with fail
              go_ret
              exact ⟨by rw [← HB.out, hd]; rfl, ⟨d + 1, rfl⟩⟩
      · obtain rfl : j = n := by omega
        have hd : decide (xs = ys) = true := by
          rw [List.take_of_length_le (by rw [HN.out]; exact Nat.le_refl _), List.take_of_length_le (by rw [HN2.out]; exact Nat.le_refl _)] at ht
          simpa using ht
        go_wp2_with fail
        go_ret
        exact ⟨by rw [← HB.out, hd]; rfl, hq⟩
  · have hd : decide (xs = ys) = false := by simp; rintro rfl; exact hl rfl
    have hl' : ((xs.length : Int) == (ys.length : Int)) = false := by simp; omega
    generalize xs.length = n at *
    generalize ys.length = m at *
    have HD := Lib.hid (HB.out.symm.trans hd)
    clear hd HB
    go_enter Try.func24, Try.ntmps24
    go_wp2_with fail
    go_ret
    exact ⟨by rw [HD.out]; rfl, Quiet.refl _⟩
end Go.Proofs.Ytmijcgcppankcaa.Net
