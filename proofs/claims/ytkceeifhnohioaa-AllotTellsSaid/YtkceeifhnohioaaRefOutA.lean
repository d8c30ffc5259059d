/- The reference's Out: what a list of its own is behind a store; the ranks, counted. -/
import Derived.Test.YtkceeifhnohioaaIs01
import Derived.Test.YtkceeifhnohioaaLaw02A
import Derived.Test.YtkceeifhnohioaaApp0
import Derived.Test.YtkceeifhnohioaaOwn
import Derived.Deep.QuietTactic
import Derived.BigQuiet
import Derived.Deep.DeepCutAuto
import Derived.Test.YtkceeifhnohioaaPortionGood
import Derived.Test.YtkceeifhnohioaaRefIs
import Derived.Test.YtkceeifhnohioaaTotal
namespace Go.Proofs.Ytkceeifhnohioaa.PO
open Go.RowKit Go.Proofs.Ytkceeifhnohioaa.Cents Go.Proofs.Ytkceeifhnohioaa.CO Go.Proofs.Ytkceeifhnohioaa.Exact
set_option linter.unusedVariables false
set_option linter.unusedSimpArgs false

theorem fit_id {n : Int} (h : I64 n) : fitN n = n ∧ fitE n = 0 := by unfold fitN fitE; rw [if_pos h, if_pos h]; exact ⟨rfl, rfl⟩

theorem Later.al {w w1 : World} {o : Obj} (h : Below (w.alloc o).heap.size (w.alloc o) w1) : Later w w1 := Later.trans (Below.alloc1 w o) h
theorem Blk.al {w w1 : World} {t : TypeId} {cs : Array Value} (h : Below (w.alloc (.cells cs t)).heap.size (w.alloc (.cells cs t)) w1) : Blk w1 w.heap.size t cs := (Blk.new w t cs).below h (Blk.new w t cs).lt
theorem Blk.two {w : World} {g t : Nat} {a b : Value} (h : Blk w g t #[a, b]) : w.cell? ⟨g, 0, none⟩ = some a ∧ w.cell? ⟨g, 1, none⟩ = some b := ⟨h.cell 0, h.cell 1⟩
theorem new_al (w : World) (o : Obj) : New (w.alloc o) (fun q => q ≠ w.heap.size) := fun q hq => by
  have : w.heap.size < (w.alloc o).heap.size := by simp
  show q ≠ w.heap.size
  omega
abbrev notOf {w : World} {g t : Nat} {cs : Array Value} (_ : Blk w g t cs) : Nat → Prop := fun q => q ≠ g
theorem notOf_new {w : World} {g t : Nat} {cs : Array Value} (h : Blk w g t cs) : New w (notOf h) := fun q hq => by
  have := h.lt
  show q ≠ g
  omega

/-- How many up to here are ahead of i. -/
def cntTo (r : List Int) (k i : Nat) : Nat := (List.range k).countP (fun j => decide (Dom r j i))
theorem cntTo_zero (r : List Int) (i : Nat) : cntTo r 0 i = 0 := rfl
theorem cntTo_yes {r : List Int} {k i : Nat} (h : Dom r k i) : cntTo r (k + 1) i = cntTo r k i + 1 := by unfold cntTo; rw [count_succ]; simp [h]
theorem cntTo_no {r : List Int} {k i : Nat} (h : ¬ Dom r k i) : cntTo r (k + 1) i = cntTo r k i := by unfold cntTo; rw [count_succ]; simp [h]
theorem cntTo_all (r : List Int) (n i : Nat) : cntTo r n i = rank r n i := rfl
theorem cntTo_le (r : List Int) (k i : Nat) : cntTo r k i ≤ k := by
  unfold cntTo
  have := List.countP_le_length (p := fun j => decide (Dom r j i)) (l := List.range k)
  simpa using this

theorem take_snocD {xs : List Int} {k : Nat} (hk : k < xs.length) : xs.take (k + 1) = xs.take k ++ [xs.getD k 0] := by
  rw [List.take_succ_eq_append_getElem hk, List.getD_eq_getElem?_getD, List.getElem?_eq_getElem hk]; rfl
/-- In the last loop: so many have got theirs. -/
def mid (T S : Int) (ws : List Int) (i : Nat) : List Int := (outL T S ws).take i ++ (pr T S ws).drop i
theorem outL_len (T S : Int) (ws : List Int) : (outL T S ws).length = ws.length := by simp [outL]
theorem pr_len (T S : Int) (ws : List Int) : (pr T S ws).length = ws.length := by simp [pr]
theorem mid_len (T S : Int) (ws : List Int) (i : Nat) : (mid T S ws i).length = ws.length := by
  unfold mid; rw [List.length_append, List.length_take, List.length_drop, outL_len, pr_len]; omega
theorem mid_zero (T S : Int) (ws : List Int) : mid T S ws 0 = pr T S ws := by simp [mid]
theorem mid_all (T S : Int) (ws : List Int) : mid T S ws ws.length = outL T S ws := by
  unfold mid
  rw [List.take_of_length_le (by rw [outL_len]; exact Nat.le_refl _), List.drop_of_length_le (by rw [pr_len]; exact Nat.le_refl _), List.append_nil]
theorem mid_get {T S : Int} {ws : List Int} {i : Nat} (h : i < ws.length) : (mid T S ws i).getD i 0 = T * ws.getD i 0 / S := by
  unfold mid
  have h1 : ((outL T S ws).take i).length = i := by rw [List.length_take, outL_len]; omega
  rw [List.getD_eq_getElem?_getD, List.getElem?_append_right (by omega), h1, Nat.sub_self, List.getElem?_drop, Nat.add_zero, ← List.getD_eq_getElem?_getD]
  exact map_getD (f := fun x => T * x / S) h
theorem outL_get {T S : Int} {ws : List Int} {i : Nat} (h : i < ws.length) : (outL T S ws).getD i 0 = T * ws.getD i 0 / S + if rank (rr T S ws) ws.length i < (T - (pr T S ws).sum).toNat then 1 else 0 := by
  simp [outL, List.getD_eq_getElem?_getD, h]
theorem mid_set {T S : Int} {ws : List Int} {i : Nat} (h : i < ws.length) : (mid T S ws i).set i ((outL T S ws).getD i 0) = mid T S ws (i + 1) := by
  unfold mid
  have h1 : ((outL T S ws).take i).length = i := by rw [List.length_take, outL_len]; omega
  rw [List.set_append_right _ _ (by omega), h1, Nat.sub_self, take_snocD (by rw [outL_len]; exact h), List.append_assoc]
  congr 1
  rw [List.drop_eq_getElem_cons (by rw [pr_len]; exact h), List.set_cons_zero]
  rfl
theorem mid_same {T S : Int} {ws : List Int} {i : Nat} (h : i < ws.length) (he : (outL T S ws).getD i 0 = T * ws.getD i 0 / S) : mid T S ws (i + 1) = mid T S ws i := by
  rw [← mid_set h, he, ← mid_get h]
  have h1 : i < (mid T S ws i).length := by rw [mid_len]; exact h
  rw [List.getD_eq_getElem?_getD, List.getElem?_eq_getElem h1]
  simp

theorem wE_any {ws : List Int} (h : wE ws = 0) : ws.any (fun x => decide (0 < x)) = true := by
  unfold wE at h
  split at h
  · omega
  · split at h
    · omega
    · split at h
      · assumption
      · omega
theorem nonneg_get {ws : List Int} (h : ∀ x ∈ ws, 0 ≤ x) {k : Nat} (hk : k < ws.length) : 0 ≤ ws.getD k 0 := by
  rw [List.getD_eq_getElem?_getD, List.getElem?_eq_getElem hk]; exact h _ (List.getElem_mem _)
theorem i64_get {ws : List Int} (h : ∀ x ∈ ws, I64 x) {k : Nat} (hk : k < ws.length) : I64 (ws.getD k 0) := by
  rw [List.getD_eq_getElem?_getD, List.getElem?_eq_getElem hk]; exact h _ (List.getElem_mem _)
/-- What is still left, behind so many parts. -/
theorem left_step {T S : Int} {ws : List Int} {k : Nat} (h : k < ws.length) : T - ((pr T S ws).take k).sum - T * ws.getD k 0 / S = T - ((pr T S ws).take (k + 1)).sum := by
  rw [take_snocD (by rw [pr_len]; exact h), List.sum_append, show (pr T S ws).getD k 0 = T * ws.getD k 0 / S from map_getD (f := fun x => T * x / S) h]
  simp
  omega
theorem many_ok {T S : Int} {ws : List Int} (h : Wts T S ws) (hT : I64 T) : 0 ≤ T - (pr T S ws).sum ∧ T - (pr T S ws).sum ≤ T ∧ I64 (T - (pr T S ws).sum) := by
  have h1 := h.missing
  have h2 : 0 ≤ (pr T S ws).sum := sum_nonneg fun i hi => (h.p (by rw [pr_len] at hi; exact hi)).2.1
  have := h.t0
  unfold I64 at *
  omega
theorem part_is2 {T S : Int} {ws : List Int} (h : Wts T S ws) (hT : I64 T) {k : Nat} (hk : k < ws.length) : I64 (T * ws.getD k 0 / S) ∧ partN T (ws.getD k 0) S = T * ws.getD k 0 / S ∧ partE T (ws.getD k 0) S = 0 := by
  obtain ⟨h1, h2, h3⟩ := h.p hk
  rw [h1] at h2 h3
  have h4 := nonneg_get h.pos hk
  have h5 : I64 (T * ws.getD k 0 / S) := by unfold I64 at *; omega
  have h6 := h.one
  unfold partN partE
  simp only [if_neg (show ¬ (S < 1 ∨ ws.getD k 0 < 0) by omega), if_pos h5]
  exact ⟨h5, trivial, trivial⟩
theorem rest_is2 {T S : Int} {ws : List Int} (h : Wts T S ws) {k : Nat} (hk : k < ws.length) : restN T (ws.getD k 0) S = (rr T S ws).getD k 0 ∧ restE T (ws.getD k 0) S = 0 := by
  have h4 := nonneg_get h.pos hk
  have h6 := h.one
  unfold restN restE
  simp only [if_neg (show ¬ (S < 1 ∨ ws.getD k 0 < 0) by omega), (h.r hk).1]
  exact ⟨trivial, trivial⟩
theorem outL_I {T S : Int} {ws : List Int} (h : Wts T S ws) (hT : I64 T) (hn : 1 ≤ ws.length) {i : Nat} (hi : i < ws.length) : 0 ≤ (outL T S ws).getD i 0 ∧ (outL T S ws).getD i 0 ≤ T := (outL_ok h hn).pos h hi
section
open Go.RowKit Go.Proofs.Ytkceeifhnohioaa.Cents Go.Proofs.Ytkceeifhnohioaa.CO Go.Proofs.Ytkceeifhnohioaa.Exact
set_option linter.unusedVariables false
set_option linter.unusedSimpArgs false

/-- A list of the call's own, and a box of an exact number. -/
structure RW (w0 : World) (Q : Nat) (out : List Int) (v : Value) (x : XV) (s : Int) (k : Nat) (w : World) : Prop where
  all : AllW w0 out v w
  bx : Blk w Q 47 #[.int .i64 x.s, .slice x.E x.l x.c]
  ex : Ex w (fun q => q ≠ Q ∧ v.ownBlock ≠ some q) x.val s k
  hQ : w0.heap.size ≤ Q
section
variable {w0 w w' w1 : World} {Q k k' : Nat} {out : List Int} {v v' : Value} {x x' : XV} {s s' : Int}
theorem RW.later (h : RW w0 Q out v x s k w) (hb : Below w.heap.size w w') : RW w0 Q out v x s k w' := ⟨h.all.later hb, h.bx.below hb h.bx.lt, h.ex.below hb, h.hQ⟩
theorem RW.new (h : RW w0 Q out v x s k w) : New w (fun q => q ≠ Q ∧ v.ownBlock ≠ some q) := fun q hq => by
  have h1 := h.bx.lt
  refine ⟨by omega, fun e => ?_⟩
  have := (h.all.own.lt q e).2
  omega
theorem RW.set (h : RW w0 Q out v x s k w) (y : XV) (hx : Ex w (fun q => q ≠ Q ∧ v.ownBlock ≠ some q) y.val s' k') : RW w0 Q out v y s' k' ((w.setCell ⟨Q, 0, none⟩ (.int .i64 y.s)).setCell ⟨Q, 1, none⟩ (.slice y.E y.l y.c)) := by
  refine ⟨h.all.box2 h.bx h.hQ _ _, ?_, (hx.setCell (fun h => h.1 rfl) _).setCell (fun h => h.1 rfl) _, h.hQ⟩
  have := (h.bx.set_ 0 (.int .i64 y.s)).set_ 1 (.slice y.E y.l y.c)
  simpa using this
theorem ex_keep {F : Nat → Prop} {n : Int} {u : Value} (h : Ex w F u n k) (hk : ∀ p : Addr, F p.block → ∀ u, w.cell? p = some u → w'.cell? p = some u) : Ex w' F u n k := by
  obtain ⟨ds, A, c, e, h1, h2, h3, h4⟩ := h
  exact ⟨ds, A, c, e, h1, h2, h3.keep hk, h4⟩
theorem RW.app {o : Obj} {n : Nat} {y : Int} {g cap : Nat} (h : RW w0 Q out v x s k w) (hn : out.length = n) (hown : w1.ownsRow w0.heap.size 2 1 (.slice (some ⟨g, 0, none⟩) (n + 1) cap) (n + 1) (ints out ++ [.int .i64 y])) (hg : (w.alloc o).grownBy w1 v.ownBlock) (hat : v.ownBlock = some g ∨ g = (w.alloc o).heap.size) :
    RW w0 Q (out ++ [y]) (.slice (some ⟨g, 0, none⟩) (n + 1) cap) x s k w1 := by
  have hL := Below.alloc1 w o
  have hne : some Q ≠ v.ownBlock := own_box h.all.own h.bx (by decide)
  refine ⟨h.all.step (by rw [hn]; exact hown) hg, (h.bx.below hL h.bx.lt).grown hg hne, ?_, h.hQ⟩
  have h1 := h.ex.below hL
  have h2 : Ex (w.alloc o) (fun q => (q ≠ Q ∧ v.ownBlock ≠ some q) ∧ q < (w.alloc o).heap.size) x.val s k := h1.weak fun q hq hl => ⟨hq, hl⟩
  have h3 : Ex w1 (fun q => (q ≠ Q ∧ v.ownBlock ≠ some q) ∧ q < (w.alloc o).heap.size) x.val s k := ex_keep h2 fun p hp u hu => by
    have := hg.block p.block hp.2 (fun e => hp.1.2 e.symm)
    unfold World.cell? at hu ⊢
    rw [this]
    exact hu
  refine h3.weak fun q hq _ => ⟨hq.1.1, fun e => ?_⟩
  simp only [Value.ownBlock, Option.some.injEq] at e
  subst e
  rcases hat with e | e
  · exact hq.1.2 e
  · have := hq.2; omega
theorem RW.start (h : AllW w0 out v w) (hx : Ex w (fun q => v.ownBlock ≠ some q) x.val s k) : RW w0 w.heap.size out v x s k (w.alloc (.cells #[.int .i64 x.s, .slice x.E x.l x.c] 47)) :=
  ⟨h.later (Below.alloc1 _ _), Blk.new _ _ _, (hx.weak (G := fun q => q ≠ w.heap.size ∧ v.ownBlock ≠ some q) (fun q hq hl => ⟨by omega, hq⟩)).below (Below.alloc1 _ _), h.be.size⟩
end

set_option maxHeartbeats 4000000 in
set_option maxRecDepth 100000 in
theorem rout_pos (T : Int) (A : Option Addr) (ws : List Int) (c : Nat) (w : World) (hT : I64 T) (h0 : 0 ≤ T) (hx : ∀ x ∈ ws, I64 x) (hr : Row w 0 A (ints ws)) (hE : wE ws = 0) :
    Calls Try.prog 20 #[.int .i64 T, .slice A ws.length c] w fun e w' => ∃ v, e = .returned (.tuple #[v, .int .i64 0]) ∧ AllW w (outL T ws.sum ws) v w' := by
  obtain ⟨hl, hp0, hS1, hSI, hn1⟩ := wE_ok hE
  have HANY := Lib.hid (wE_any hE)
  have HW := Lib.hid (show Wts T ws.sum ws from ⟨h0, hp0, rfl, hS1⟩)
  have HR := Lib.hid hr
  have HX := Lib.hid hx
  have HT := Lib.hid hT
  have HP := Lib.hid hp0
  obtain ⟨S, hS⟩ : ∃ S, ws.sum = S := ⟨_, rfl⟩
  have HS := Lib.hid hS
  rw [hS] at hS1 hSI HW ⊢
  obtain ⟨n, hn⟩ : ∃ n, ws.length = n := ⟨_, rfl⟩
  have HN := Lib.hid hn
  have HSI := Lib.hid hSI
  rw [hn] at hl hn1 ⊢
  have h2 : decide ((64 : Int) < (n : Int)) = false := by simp; omega
  have h3 : (T == -9223372036854775808) = false := by simp; omega
  clear hr hx hT hE hp0 hS hn hSI
  go_enter Try.func20, Try.ntmps20
  go_wp2_with fail
  go_loop [6, 7] (fun b i => ∃ (k : Nat), b = .bool ((ws.take k).any (fun x => decide (0 < x))) ∧ i = .int .i64 (k : Int) ∧ k ≤ n) (fun _ i => n - (intOf i).toNat)
  case atStart => exact ⟨0, by simp, rfl, by omega⟩
  case round =>
    obtain ⟨k, rfl, rfl, hk⟩ := hrel
    have g0 : (0 : Int) ≤ (k : Int) := Int.natCast_nonneg _
    by_cases hlt : k < n
    · obtain ⟨ad, rfl, c0⟩ := int_cell HR.out (j := k) (by rw [HN.out]; exact hlt)
      have g1 : (k : Int) < (n : Int) := by omega
      have hx0 := nonneg_get HP.out (k := k) (by rw [HN.out]; exact hlt)
      have htk := take_anyb (P := fun x => decide (0 < x)) (xs := ws) (j := k) (by rw [HN.out]; exact hlt)
      obtain ⟨x, hxx⟩ : ∃ x, ws.getD k 0 = x := ⟨_, rfl⟩
      rw [hxx] at c0 hx0 htk
      have HTK := Lib.hid htk
      have f1 : decide (x < 0) = false := by simp; omega
      obtain ⟨b, hb⟩ : ∃ b, (ws.take k).any (fun x => decide (0 < x)) = b := ⟨_, rfl⟩
      rw [hb] at HTK
      rw [hb]
      clear hb hxx htk
      cases b
      · by_cases f2 : 0 < x
        · go_wp2_with fail
          go_round
          case rel => exact ⟨k + 1, by rw [HTK.out]; simp; exact f2, by go_num, by omega⟩
          case measure => simp only [intOf]; omega
        · go_wp2_with fail
          go_round
          case rel => exact ⟨k + 1, by rw [HTK.out]; simp; omega, by go_num, by omega⟩
          case measure => simp only [intOf]; omega
      · go_wp2_with fail
        go_round
        case rel => exact ⟨k + 1, by rw [HTK.out]; simp, by go_num, by omega⟩
        case measure => simp only [intOf]; omega
    · obtain rfl : k = n := by omega
      rw [show ws.take k = ws from List.take_of_length_le (by rw [HN.out]; exact Nat.le_refl _), HANY.out]
      go_wp2_with fail
      have htot := total_any (fun _ => True) A ws c w (fun _ _ => trivial) HX.out HR.out (by rw [HN.out]; omega)
      rw [HN.out, HS.out] at htot
      refine htot.mono ?_
      rintro e w1 ⟨v1, rfl, x1, b1⟩
      have X1 := Lib.hid x1
      have HL := Lib.hid (show Later w w1 from b1)
      clear x1 b1 htot
      go_wp2_with fail
      refine (fit_is _ S (k + 7) _ X1.out (by omega) (by omega) S 0 (fit_id HSI.out)).mono ?_
      rintro e w2 ⟨rfl, b2⟩
      have HL := Lib.hid (HL.out.trans b2)
      clear b2
      have hsz : w.heap.size ≤ w2.heap.size := HL.out.size
      have HAL := Lib.hid (AllW.mk (w0 := w) (out := []) (v := .slice (some ⟨w2.heap.size, 0, none⟩) 0 0) (own_empty w2 2 1 _ hsz) (HL.out.alloc hsz _))
      go_wp2_with fail
      refine (of_any (fun q => q ≠ w2.heap.size) T _ (new_al _ _) HT.out).mono ?_
      rintro e w3 ⟨v3, rfl, x3, b3⟩
      obtain ⟨⟨s3, E3, l3, c3⟩, rfl⟩ := x3.xv
      have hrw := RW.start (HAL.out.later b3) (x := ⟨s3, E3, l3, c3⟩) (x3.weak (G := fun q => (Value.slice (some ⟨w2.heap.size, 0, none⟩) 0 0).ownBlock ≠ some q) (fun q hq _ e => hq (by simpa [Value.ownBlock] using e.symm)))
      have HRW := Lib.hid hrw
      clear hrw x3 b3 HAL X1
      try dsimp only [XV.val]
      go_wp2_with fail
      obtain ⟨Q, hQ⟩ : ∃ Q, w3.heap.size = Q := ⟨_, rfl⟩
      obtain ⟨wb, hwb⟩ : ∃ wb, w3.alloc (Obj.cells #[Value.int IntKind.i64 s3, Value.slice E3 l3 c3] 47) = wb := ⟨_, rfl⟩
      rw [hQ] at HRW ⊢
      rw [show w3.alloc (Obj.cells #[Value.int IntKind.i64 (⟨s3, E3, l3, c3⟩ : XV).s, Value.slice (⟨s3, E3, l3, c3⟩ : XV).E (⟨s3, E3, l3, c3⟩ : XV).l (⟨s3, E3, l3, c3⟩ : XV).c] 47) = wb from hwb] at HRW
      rw [hwb]
      clear hQ hwb
      go_loopw [13, 15] (fun v i wr => ∃ (j : Nat) (B : Option Addr) (cb : Nat) (X : XV), v = .slice B j cb ∧ i = .int .i64 (j : Int) ∧ j ≤ k ∧ RW w Q ((pr T S ws).take j) (.slice B j cb) X (T - ((pr T S ws).take j).sum) (7 + j) wr) (fun _ i _ => k - (intOf i).toNat)
      case atStart => exact ⟨0, _, 0, _, rfl, rfl, by omega, by simpa using HRW.out⟩
      case round =>
        clear HRW
        obtain ⟨j, B, cb, X, rfl, rfl, hj, hrw⟩ := hrel
        have HRW := Lib.hid hrw
        clear hrw
        have g2 : (0 : Int) ≤ (j : Int) := Int.natCast_nonneg _
        by_cases hjk : j < k
        · obtain ⟨ad, rfl, c0⟩ := int_cell (HR.out.below HRW.out.all.be) (j := j) (by rw [HN.out]; exact hjk)
          have g3 : (j : Int) < (k : Int) := by omega
          have hjl : j < ws.length := by rw [HN.out]; exact hjk
          have hxm := i64_get HX.out hjl
          obtain ⟨hpi, hpa⟩ := part_is2 HW.out HT.out hjl
          have hls := left_step (T := T) (S := S) hjl
          have htk := take_snocD (xs := pr T S ws) (k := j) (by rw [pr_len]; exact hjl)
          rw [show (pr T S ws).getD j 0 = T * ws.getD j 0 / S from map_getD (f := fun x => T * x / S) hjl] at htk
          have hlt2 : ((pr T S ws).take j).length = j := by rw [List.length_take, pr_len]; omega
          obtain ⟨m, hm⟩ : ∃ m, ws.getD j 0 = m := ⟨_, rfl⟩
          rw [hm] at c0 hxm hpi hpa hls htk
          obtain ⟨y, hy⟩ : ∃ y, T * m / S = y := ⟨_, rfl⟩
          rw [hy] at hpi hpa hls htk
          have HXM := Lib.hid hxm
          have HPA := Lib.hid hpa
          have HPI := Lib.hid hpi
          have HTK := Lib.hid htk
          have HTL := Lib.hid hlt2
          have HLS := Lib.hid hls
          have hb1' : (j + 1) * 8 ≤ 140737488355328 := by omega
          have hb2' : j + 1 ≤ maxLen := by unfold maxLen; omega
          generalize T - ((pr T S ws).take j).sum = sl at HLS HRW
          clear hxm hpi hpa hls htk hlt2 hm hy hjl
          go_wp2_with fail
          refine (rpart_is T m S y 0 _ HT.out HXM.out HSI.out HPA.out).mono ?_
          rintro e w4 ⟨rfl, b4⟩
          have HRW := Lib.hid (HRW.out.later b4)
          have hsz : w.heap.size ≤ w4.heap.size := HRW.out.all.be.size
          have OW := Lib.hid (show w4.ownsRow w.heap.size 2 1 (.slice B j cb) j (ints ((pr T S ws).take j)) by have := HRW.out.all.own; rw [HTL.out] at this; exact this)
          clear b4 c0
          go_wp2_with (at_builtin; refine wpList_app E_i64 rfl (.tmp 105) (.tmp 107) rfl rfl (OW.out.alloc _) ⟨w4.heap.size, 0, none⟩ 1 1 [.int .i64 y] rfl rfl (cell_one_new _ _ _) (one_cell _ _) hb1' hb2' (by simp; omega) (by decide) ?_; intro g cap w6 hown6 hg6 hat6; have HA6 := Lib.hid (HRW.out.app HTL.out hown6 hg6 hat6); clear hown6 hg6 hat6)
          rw [← HTK.out] at HA6
          have b0 : w6.cell? ⟨Q, 0, none⟩ = some (.int .i64 X.s) := HA6.out.bx.cell 0
          have b1 : w6.cell? ⟨Q, 1, none⟩ = some (.slice X.E X.l X.c) := HA6.out.bx.cell 1
          clear HRW OW
          go_region_with
            (first
              | (go_at_call 27; refine (of_any (fun q => q ≠ Q ∧ (Value.slice (some ⟨g, 0, none⟩) (j + 1) cap).ownBlock ≠ some q) y _ ?_ HPI.out).mono ?_; exact (HA6.out.later (Later.refl w6).drew).new; rintro e w7 ⟨v7, rfl, x7, b7⟩; have HA7 := Lib.hid ((HA6.out.later (Later.refl w6).drew).later b7); have X7 := Lib.hid x7; clear x7 b7; have e0 : w7.cell? ⟨Q, 0, none⟩ = some (.int .i64 X.s) := HA7.out.bx.cell 0; have e1 : w7.cell? ⟨Q, 1, none⟩ = some (.slice X.E X.l X.c) := HA7.out.bx.cell 1)
              | (go_at_call 29; refine (Exact.less_any (fun q => q ≠ Q ∧ (Value.slice (some ⟨g, 0, none⟩) (j + 1) cap).ownBlock ≠ some q) _ _ sl y (7 + j) _ ?_ ?_ ?_ (by omega)).mono ?_; exact HA7.out.new; exact HA7.out.ex; exact X7.out.more (by omega); rintro e w8 ⟨v8, rfl, x8, b8⟩; obtain ⟨⟨s8, E8, l8, c8⟩, rfl⟩ := x8.xv; have HA8 := Lib.hid (HA7.out.later b8); have X8 := Lib.hid x8; clear x8 b8; have e2 : w8.cell? ⟨Q, 0, none⟩ = some (.int .i64 X.s) := HA8.out.bx.cell 0; have e3 : w8.cell? ⟨Q, 1, none⟩ = some (.slice X.E X.l X.c) := HA8.out.bx.cell 1; have d3 := HA8.out.bx.frozen 0; have d4 := HA8.out.bx.frozen 1; try dsimp only [XV.val]))
          all_goals
            go_wp2_with fail
            go_roundw
            case rel => exact ⟨j + 1, _, _, ⟨s8, E8, l8, c8⟩, rfl, by go_num, by omega, by rw [← HLS.out]; exact HA8.out.set ⟨s8, E8, l8, c8⟩ X8.out⟩
            case measure => simp only [intOf]; omega
        · obtain rfl : j = k := by omega
          have htk : (pr T S ws).take j = pr T S ws := List.take_of_length_le (by rw [pr_len, HN.out]; exact Nat.le_refl _)
          rw [htk] at HRW
          obtain ⟨hm1, hm2, hm3⟩ := many_ok HW.out HT.out
          obtain ⟨M, hM⟩ : ∃ M, T - (pr T S ws).sum = M := ⟨_, rfl⟩
          have HM := Lib.hid hM
          rw [hM] at HRW hm1 hm2 hm3
          have HMI := Lib.hid (fit_id hm3)
          have HA := Lib.hid HRW.out.all
          have HE := Lib.hid (HRW.out.ex.any (Nat.le_refl _))
          obtain ⟨g, cap, hB, hcap⟩ := HA.out.form (n := j) (by rw [pr_len, HN.out]) (by omega)
          cases hB
          rw [← mid_zero T S ws] at HA
          have b0 : wr.cell? ⟨Q, 0, none⟩ = some (.int .i64 X.s) := HRW.out.bx.cell 0
          have b1 : wr.cell? ⟨Q, 1, none⟩ = some (.slice X.E X.l X.c) := HRW.out.bx.cell 1
          clear HRW htk hM hm2 hm3
          go_wp2_with fail
          refine (fit_is _ M (7 + j) _ HE.out (by omega) (by omega) M 0 HMI.out).mono ?_
          rintro e w5 ⟨rfl, b5⟩
          have HA := Lib.hid (HA.out.later b5)
          clear b5 b0 b1 HE
          go_wp2_with fail
          obtain ⟨wo, hwo⟩ : ∃ wo : World, wo = w5 := ⟨_, rfl⟩
          rw [← hwo] at HA ⊢
          clear hwo
          go_loopw [20] (fun i wr => ∃ (a : Nat), i = .int .i64 (a : Int) ∧ a ≤ j ∧ AllW w (mid T S ws a) (.slice (some ⟨g, 0, none⟩) j cb) wr) (fun i _ => j - (intOf i).toNat)
          case atStart => exact ⟨0, rfl, by omega, HA.out⟩
          case round =>
            clear HA
            obtain ⟨a, rfl, ha, hall⟩ := hrel
            have HA := Lib.hid hall
            clear hall
            have g2 : (0 : Int) ≤ (a : Int) := Int.natCast_nonneg _
            by_cases haj : a < j
            · obtain ⟨ad, rfl, c0⟩ := int_cell (HR.out.below HA.out.be) (j := a) (by rw [HN.out]; exact haj)
              have g3 : (a : Int) < (j : Int) := by omega
              have hal : a < ws.length := by rw [HN.out]; exact haj
              have hxm := i64_get HX.out hal
              have hra := rest_is2 HW.out hal
              obtain ⟨m, hm⟩ : ∃ m, ws.getD a 0 = m := ⟨_, rfl⟩
              rw [hm] at c0 hxm hra
              obtain ⟨r, hr⟩ : ∃ r, (rr T S ws).getD a 0 = r := ⟨_, rfl⟩
              rw [hr] at hra
              have HXM := Lib.hid hxm
              have HRA := Lib.hid hra
              have HRR := Lib.hid hr
              have HMM := Lib.hid hm
              clear hxm hra hr hm hal
              go_wp2_with fail
              refine (rrest_is T m S r 0 _ HT.out HXM.out HSI.out HRA.out).mono ?_
              rintro e w6 ⟨rfl, b6⟩
              have HA6 := Lib.hid (HA.out.later b6)
              clear b6 c0 HRA HXM HA
              go_wp2_with fail
              obtain ⟨wi, hwi⟩ : ∃ wi : World, wi = w6 := ⟨_, rfl⟩
              rw [← hwi] at HA6 ⊢
              clear hwi
              obtain ⟨wi0, hwi0⟩ : ∃ w0 : World, w0 = wr := ⟨_, rfl⟩
              subst hwi0
              go_loopw [23, 24] (fun v i wr => ∃ (b : Nat), v = .int .i64 (cntTo (rr T S ws) b a : Int) ∧ i = .int .i64 (b : Int) ∧ b ≤ j ∧ AllW w (mid T S ws a) (.slice (some ⟨g, 0, none⟩) j cb) wr) (fun _ i _ => j - (intOf i).toNat)
              case atStart => exact ⟨0, by rw [cntTo_zero]; rfl, rfl, by omega, HA6.out⟩
              case round =>
                clear HA6
                obtain ⟨b, rfl, rfl, hb, hall⟩ := hrel
                have HA := Lib.hid hall
                clear hall
                have g4 : (0 : Int) ≤ (b : Int) := Int.natCast_nonneg _
                have hcl := cntTo_le (rr T S ws) b a
                by_cases hbj : b < j
                · obtain ⟨ad2, hae, c0⟩ := int_cell (HR.out.below HA.out.be) (j := b) (by rw [HN.out]; exact hbj)
                  cases hae
                  have g5 : (b : Int) < (j : Int) := by omega
                  have hbl : b < ws.length := by rw [HN.out]; exact hbj
                  have hxm := i64_get HX.out hbl
                  have hra := rest_is2 HW.out hbl
                  obtain ⟨m2, hm2⟩ : ∃ m, ws.getD b 0 = m := ⟨_, rfl⟩
                  rw [hm2] at c0 hxm hra
                  obtain ⟨s, hs⟩ : ∃ r, (rr T S ws).getD b 0 = r := ⟨_, rfl⟩
                  rw [hs] at hra
                  have hdom : Dom (rr T S ws) b a ↔ (r < s ∨ (s = r ∧ b < a)) := by unfold Dom; rw [hs, HRR.out]
                  have HYES := Lib.hid (fun (h : r < s ∨ (s = r ∧ b < a)) => cntTo_yes (hdom.2 h))
                  have HNO := Lib.hid (fun (h : ¬ (r < s ∨ (s = r ∧ b < a))) => cntTo_no (fun d => h (hdom.1 d)))
                  generalize hcnt : cntTo (rr T S ws) b a = cn at HYES HNO hcl ⊢
                  have HXM := Lib.hid hxm
                  have HRA := Lib.hid hra
                  clear hxm hra hs hm2 hbl hdom hcnt
                  go_wp2_with fail
                  refine (rrest_is T m2 S s 0 _ HT.out HXM.out HSI.out HRA.out).mono ?_
                  rintro e w7 ⟨rfl, b7⟩
                  have HA := Lib.hid (HA.out.later b7)
                  clear b7 c0 HRA HXM
                  by_cases f1 : r < s
                  · have f2 : decide (r < s) = true := by simp; exact f1
                    go_wp2_with fail
                    go_roundw
                    case rel => exact ⟨b + 1, by rw [HYES.out (.inl f1)]; go_num, by go_num, by omega, HA.out⟩
                    case measure => simp only [intOf]; omega
                  have f2 : decide (r < s) = false := by simp; omega
                  by_cases f3 : s = r
                  · subst f3
                    by_cases f5 : b < a
                    · have HY := Lib.hid (HYES.out (.inr ⟨rfl, f5⟩))
                      have f6 : decide ((b : Int) < (a : Int)) = true := by simp; omega
                      go_wp2_with fail
                      go_roundw
                      case rel => exact ⟨b + 1, by rw [HY.out]; go_num, by go_num, by omega, HA.out⟩
                      case measure => simp only [intOf]; omega
                    · have f6 : decide ((b : Int) < (a : Int)) = false := by simp; omega
                      go_wp2_with fail
                      go_roundw
                      case rel => exact ⟨b + 1, by rw [HNO.out (fun h => by omega)], by go_num, by omega, HA.out⟩
                      case measure => simp only [intOf]; omega
                  · have f4 : (s == r) = false := by simpa using f3
                    go_wp2_with fail
                    go_roundw
                    case rel => exact ⟨b + 1, by rw [HNO.out (fun h => by omega)], by go_num, by omega, HA.out⟩
                    case measure => simp only [intOf]; omega
                · obtain rfl : b = j := by omega
                  have hal : a < ws.length := by rw [HN.out]; exact haj
                  have hg := outL_get (T := T) (S := S) hal
                  have hmg := mid_get (T := T) (S := S) hal
                  have hms := mid_set (T := T) (S := S) hal
                  have hme := mid_same (T := T) (S := S) hal
                  have hli := outL_I HW.out HT.out (by rw [HN.out]; omega) hal
                  have hpi := (part_is2 HW.out HT.out hal).1
                  have hml := mid_len T S ws a
                  rw [HN.out] at hml
                  rw [HN.out, ← cntTo_all, HM.out] at hg
                  obtain ⟨m0, hm0⟩ : ∃ m, T * ws.getD a 0 / S = m := ⟨_, rfl⟩
                  rw [hm0] at hg hmg hme hpi
                  obtain ⟨o, ho⟩ : ∃ o, (outL T S ws).getD a 0 = o := ⟨_, rfl⟩
                  rw [ho] at hg hms hme hli
                  generalize cntTo (rr T S ws) b a = cn at *
                  have c1 := HA.out.cell hml haj
                  rw [hmg] at c1
                  have d1 := HA.out.free hml a
                  have HMS := Lib.hid hms
                  have HME := Lib.hid hme
                  have HML := Lib.hid hml
                  clear hms hme hml hmg hm0 ho hal HMM HRR
                  by_cases f1 : (cn : Int) < M
                  · have f2 : decide ((cn : Int) < M) = true := by simp; exact f1
                    rw [if_pos (by omega)] at hg
                    subst hg
                    have f3 : IntKind.i64.wrap (m0 + 1) = m0 + 1 := IntWalk.i64_in _ (by have := HT.out; unfold I64 at this; omega)
                    go_wp2_with fail
                    go_roundw
                    case rel => exact ⟨a + 1, by go_num, by omega, by rw [← HMS.out]; exact HA.out.set HML.out a _⟩
                    case measure => simp only [intOf]; omega
                  · have f2 : decide ((cn : Int) < M) = false := by simp; omega
                    rw [if_neg (by omega)] at hg
                    go_wp2_with fail
                    go_roundw
                    case rel => exact ⟨a + 1, by go_num, by omega, by rw [HME.out (by omega)]; exact HA.out⟩
                    case measure => simp only [intOf]; omega
            · obtain rfl : a = j := by omega
              go_wp2_with fail
              go_ret2
              have hm := mid_all T S ws
              rw [HN.out] at hm
              rw [hm] at HA
              exact ⟨_, rfl, HA.out⟩
end
section
open Go.RowKit Go.Proofs.Ytkceeifhnohioaa.Cents Go.Proofs.Ytkceeifhnohioaa.CO Go.Proofs.Ytkceeifhnohioaa.Exact
set_option linter.unusedVariables false
set_option linter.unusedSimpArgs false

theorem outE_full {T : Int} {ws : List Int} (h : 64 < ws.length) : outE T ws = 4 := by unfold outE wE; simp [h]
theorem outE_neg {T : Int} {ws : List Int} {k : Nat} (h : ¬ 64 < ws.length) (hk : k < ws.length) (hx : ws.getD k 0 < 0) : outE T ws = 1 := by
  have h1 : ws.any (fun x => decide (x < 0)) = true := by
    rw [List.any_eq_true]
    exact ⟨_, List.getElem_mem hk, by rw [List.getD_eq_getElem?_getD, List.getElem?_eq_getElem hk] at hx; simpa using hx⟩
  unfold outE wE
  rw [if_neg h, if_pos h1]
  simp
theorem outE_none {T : Int} {ws : List Int} (h : ¬ 64 < ws.length) (h1 : ws.any (fun x => decide (x < 0)) = false) (h2 : ws.any (fun x => decide (0 < x)) = false) : outE T ws = 1 := by
  unfold outE wE
  rw [if_neg h, h1, h2]
  simp
theorem outE_over {T : Int} {ws : List Int} (h : ¬ 64 < ws.length) (h1 : ws.any (fun x => decide (x < 0)) = false) (h2 : ws.any (fun x => decide (0 < x)) = true) (h3 : ¬ I64 ws.sum) : outE T ws = 3 := by
  unfold outE wE sumE
  rw [if_neg h, h1, h2, if_neg h3]
  simp
theorem outE_low {T : Int} {ws : List Int} (h : ¬ 64 < ws.length) (h1 : ws.any (fun x => decide (x < 0)) = false) (h2 : ws.any (fun x => decide (0 < x)) = true) (h3 : I64 ws.sum) : outE T ws = if T = -9223372036854775808 then 3 else 0 := by
  unfold outE wE sumE
  rw [if_neg h, h1, h2, if_pos h3]
  simp
theorem fit_no {n : Int} (h : ¬ I64 n) : fitN n = 0 ∧ fitE n = 3 := by unfold fitN fitE; rw [if_neg h, if_neg h]; exact ⟨rfl, rfl⟩

set_option maxHeartbeats 2000000 in
set_option maxRecDepth 100000 in
theorem rout_bad (T : Int) (A : Option Addr) (ws : List Int) (c : Nat) (w : World) (hT : I64 T) (hx : ∀ x ∈ ws, I64 x) (hr : Row w 0 A (ints ws)) (hl : ws.length * 8 ≤ 140737488351232) (e0 : Int) (he : outE T ws = e0) (hne : e0 ≠ 0) :
    Calls Try.prog 20 #[.int .i64 T, .slice A ws.length c] w (RetL w [] e0) := by
  by_cases h64 : 64 < ws.length
  · rw [outE_full h64] at he
    subst he
    generalize ws.length = n at *
    have h2 : decide ((64 : Int) < (n : Int)) = true := by simp; omega
    clear hx hr
    go_enter Try.func20, Try.ntmps20
    go_wp2_with fail
    go_ret2
    exact ⟨none, 0, rfl, Row.none_, by simp, Below.refl _ _⟩
  have HNEG := Lib.hid (fun k (hk : k < ws.length) (hx : ws.getD k 0 < 0) => he.symm.trans (outE_neg (T := T) h64 hk hx))
  have HNONE := Lib.hid (fun h1 h2 => he.symm.trans (outE_none (T := T) (ws := ws) h64 h1 h2))
  have HOVER := Lib.hid (fun h1 h2 h3 => he.symm.trans (outE_over (T := T) (ws := ws) h64 h1 h2 h3))
  have HLOW := Lib.hid (fun h1 h2 h3 => he.symm.trans (outE_low (T := T) (ws := ws) h64 h1 h2 h3))
  have HR := Lib.hid hr
  have HX := Lib.hid hx
  have HT := Lib.hid hT
  obtain ⟨n, hn⟩ : ∃ n, ws.length = n := ⟨_, rfl⟩
  have HN := Lib.hid hn
  rw [hn] at hl h64 ⊢
  have h2 : decide ((64 : Int) < (n : Int)) = false := by simp; omega
  clear hr hx hT he hn
  go_enter Try.func20, Try.ntmps20
  go_wp2_with fail
  go_loop [6, 7] (fun b i => ∃ (k : Nat), b = .bool ((ws.take k).any (fun x => decide (0 < x))) ∧ i = .int .i64 (k : Int) ∧ k ≤ n ∧ (ws.take k).any (fun x => decide (x < 0)) = false) (fun _ i => n - (intOf i).toNat)
  case atStart => exact ⟨0, by simp, rfl, by omega, by simp⟩
  case round =>
    obtain ⟨k, rfl, rfl, hk, hnn⟩ := hrel
    have HNN := Lib.hid hnn
    clear hnn
    have g0 : (0 : Int) ≤ (k : Int) := Int.natCast_nonneg _
    by_cases hlt : k < n
    · obtain ⟨ad, rfl, c0⟩ := int_cell HR.out (j := k) (by rw [HN.out]; exact hlt)
      have g1 : (k : Int) < (n : Int) := by omega
      have htk := take_anyb (P := fun x => decide (0 < x)) (xs := ws) (j := k) (by rw [HN.out]; exact hlt)
      have htn := take_anyb (P := fun x => decide (x < 0)) (xs := ws) (j := k) (by rw [HN.out]; exact hlt)
      have hng := HNEG.out k (by rw [HN.out]; exact hlt)
      obtain ⟨x, hxx⟩ : ∃ x, ws.getD k 0 = x := ⟨_, rfl⟩
      rw [hxx] at c0 htk htn hng
      rw [HNN.out] at htn
      have HTK := Lib.hid htk
      have HTN := Lib.hid htn
      have HNG := Lib.hid hng
      obtain ⟨b, hb⟩ : ∃ b, (ws.take k).any (fun x => decide (0 < x)) = b := ⟨_, rfl⟩
      rw [hb] at HTK
      rw [hb]
      clear hb hxx htk htn hng
      by_cases f0 : x < 0
      · have f1 : decide (x < 0) = true := by simp; exact f0
        have he1 := HNG.out f0
        subst he1
        go_wp2_with fail
        go_ret2
        exact ⟨none, 0, rfl, Row.none_, by simp, Below.refl _ _⟩
      have f1 : decide (x < 0) = false := by simp; omega
      have HTN2 := Lib.hid (show (ws.take (k + 1)).any (fun x => decide (x < 0)) = false by rw [HTN.out]; simp; omega)
      cases b
      · by_cases f2 : 0 < x
        · go_wp2_with fail
          go_round
          case rel => exact ⟨k + 1, by rw [HTK.out]; simp; exact f2, by go_num, by omega, HTN2.out⟩
          case measure => simp only [intOf]; omega
        · go_wp2_with fail
          go_round
          case rel => exact ⟨k + 1, by rw [HTK.out]; simp; omega, by go_num, by omega, HTN2.out⟩
          case measure => simp only [intOf]; omega
      · go_wp2_with fail
        go_round
        case rel => exact ⟨k + 1, by rw [HTK.out]; simp, by go_num, by omega, HTN2.out⟩
        case measure => simp only [intOf]; omega
    · obtain rfl : k = n := by omega
      have htk : ws.take k = ws := List.take_of_length_le (by rw [HN.out]; exact Nat.le_refl _)
      rw [htk] at HNN ⊢
      obtain ⟨b, hb⟩ : ∃ b, ws.any (fun x => decide (0 < x)) = b := ⟨_, rfl⟩
      rw [hb]
      have HB := Lib.hid hb
      clear hb htk
      cases b
      · have he1 := HNONE.out HNN.out HB.out
        subst he1
        go_wp2_with fail
        go_ret2
        exact ⟨none, 0, rfl, Row.none_, by simp, Below.refl _ _⟩
      have htot := total_any (fun _ => True) A ws c w (fun _ _ => trivial) HX.out HR.out (by rw [HN.out]; omega)
      obtain ⟨S, hS⟩ : ∃ S, ws.sum = S := ⟨_, rfl⟩
      have HS := Lib.hid hS
      rw [HN.out, hS] at htot
      clear hS
      by_cases hSI : I64 S
      · have hlow := HLOW.out HNN.out HB.out (by rw [HS.out]; exact hSI)
        by_cases hT2 : T = -9223372036854775808
        · rw [if_pos hT2] at hlow
          subst hlow
          have HSI := Lib.hid hSI
          have f5 : (T == -9223372036854775808) = true := by simp; exact hT2
          have HT2 := Lib.hid hT2
          clear hSI hT2
          go_wp2_with fail
          refine htot.mono ?_
          rintro e w1 ⟨v1, rfl, x1, b1⟩
          have X1 := Lib.hid x1
          have HL := Lib.hid (show Later w w1 from b1)
          clear x1 b1 htot
          go_wp2_with fail
          refine (fit_is _ S (k + 7) _ X1.out (by omega) (by omega) S 0 (fit_id HSI.out)).mono ?_
          rintro e w2 ⟨rfl, b2⟩
          have HL := Lib.hid (HL.out.trans b2)
          clear b2
          go_wp2_with fail
          go_ret2
          exact ⟨none, 0, rfl, Row.none_, by simp, HL.out⟩
        · rw [if_neg hT2] at hlow
          exact absurd hlow hne
      · have hover := HOVER.out HNN.out HB.out (by rw [HS.out]; exact hSI)
        subst hover
        have HSI := Lib.hid hSI
        clear hSI
        go_wp2_with fail
        refine htot.mono ?_
        rintro e w1 ⟨v1, rfl, x1, b1⟩
        have X1 := Lib.hid x1
        have HL := Lib.hid (show Later w w1 from b1)
        clear x1 b1 htot
        go_wp2_with fail
        refine (fit_is _ S (k + 7) _ X1.out (by omega) (by omega) 0 3 (fit_no HSI.out)).mono ?_
        rintro e w2 ⟨rfl, b2⟩
        have HL := Lib.hid (HL.out.trans b2)
        clear b2
        go_wp2_with fail
        go_ret2
        exact ⟨none, 0, rfl, Row.none_, by simp, HL.out⟩

theorem all_in {w w2 w3 : World} {out : List Int} {v : Value} (h : AllW w2 out v w3) (hl : Later w w2) : AllW w out v w3 := ⟨⟨h.own.1, h.own.2.imp id fun ⟨g, cap, cur, e, hb, r⟩ => ⟨g, cap, cur, e, Nat.le_trans hl.size hb, r⟩⟩, hl.trans h.be⟩
theorem all_ret {w w' : World} {l : List Int} {v : Value} (h : AllW w l v w') (hn : 1 ≤ l.length) : RetL w l 0 (.returned (.tuple #[v, .int .i64 0])) w' := by
  obtain ⟨g, cap, rfl, hc⟩ := h.form rfl hn
  exact ⟨_, _, rfl, Row.of_own h.own (by decide), hc, h.be⟩

set_option maxHeartbeats 2000000 in
set_option maxRecDepth 100000 in
theorem rout_neg (T : Int) (A : Option Addr) (ws : List Int) (c : Nat) (w : World) (hT : I64 T) (h0 : T < 0) (h1 : T ≠ -9223372036854775808) (hx : ∀ x ∈ ws, I64 x) (hr : Row w 0 A (ints ws)) (hE : wE ws = 0) :
    Calls Try.prog 20 #[.int .i64 T, .slice A ws.length c] w fun e w' => ∃ v, e = .returned (.tuple #[v, .int .i64 0]) ∧ AllW w ((outL (-T) ws.sum ws).map (fun x => -x)) v w' := by
  obtain ⟨hl, hp0, hS1, hSI, hn1⟩ := wE_ok hE
  have hTn : I64 (-T) := by unfold I64 at *; omega
  have HANY := Lib.hid (wE_any hE)
  have HW := Lib.hid (show Wts (-T) ws.sum ws from ⟨by omega, hp0, rfl, hS1⟩)
  have HPOS := Lib.hid (fun w2 (h : Row w2 0 A (ints ws)) => rout_pos (-T) A ws c w2 hTn (by omega) hx h hE)
  have HR := Lib.hid hr
  have HX := Lib.hid hx
  have HT := Lib.hid hT
  have HTN := Lib.hid hTn
  have HP := Lib.hid hp0
  obtain ⟨S, hS⟩ : ∃ S, ws.sum = S := ⟨_, rfl⟩
  have HS := Lib.hid hS
  rw [hS] at hS1 hSI HW HPOS ⊢
  obtain ⟨n, hn⟩ : ∃ n, ws.length = n := ⟨_, rfl⟩
  have HN := Lib.hid hn
  have HSI := Lib.hid hSI
  rw [hn] at hl hn1 HPOS ⊢
  have h2 : decide ((64 : Int) < (n : Int)) = false := by simp; omega
  have h3 : (T == -9223372036854775808) = false := by simp; omega
  have h4 : decide (T < 0) = true := by simp; omega
  have h5 : IntKind.i64.wrap (-T) = -T := IntWalk.i64_in _ (by unfold I64 at hT; omega)
  clear hr hx hT hE hp0 hS hn hSI hTn
  go_enter Try.func20, Try.ntmps20
  go_wp2_with fail
  go_loop [6, 7] (fun b i => ∃ (k : Nat), b = .bool ((ws.take k).any (fun x => decide (0 < x))) ∧ i = .int .i64 (k : Int) ∧ k ≤ n) (fun _ i => n - (intOf i).toNat)
  case atStart => exact ⟨0, by simp, rfl, by omega⟩
  case round =>
    obtain ⟨k, rfl, rfl, hk⟩ := hrel
    have g0 : (0 : Int) ≤ (k : Int) := Int.natCast_nonneg _
    by_cases hlt : k < n
    · obtain ⟨ad, rfl, c0⟩ := int_cell HR.out (j := k) (by rw [HN.out]; exact hlt)
      have g1 : (k : Int) < (n : Int) := by omega
      have hx0 := nonneg_get HP.out (k := k) (by rw [HN.out]; exact hlt)
      have htk := take_anyb (P := fun x => decide (0 < x)) (xs := ws) (j := k) (by rw [HN.out]; exact hlt)
      obtain ⟨x, hxx⟩ : ∃ x, ws.getD k 0 = x := ⟨_, rfl⟩
      rw [hxx] at c0 hx0 htk
      have HTK := Lib.hid htk
      have f1 : decide (x < 0) = false := by simp; omega
      obtain ⟨b, hb⟩ : ∃ b, (ws.take k).any (fun x => decide (0 < x)) = b := ⟨_, rfl⟩
      rw [hb] at HTK
      rw [hb]
      clear hb hxx htk
      cases b
      · by_cases f2 : 0 < x
        · go_wp2_with fail
          go_round
          case rel => exact ⟨k + 1, by rw [HTK.out]; simp; exact f2, by go_num, by omega⟩
          case measure => simp only [intOf]; omega
        · go_wp2_with fail
          go_round
          case rel => exact ⟨k + 1, by rw [HTK.out]; simp; omega, by go_num, by omega⟩
          case measure => simp only [intOf]; omega
      · go_wp2_with fail
        go_round
        case rel => exact ⟨k + 1, by rw [HTK.out]; simp, by go_num, by omega⟩
        case measure => simp only [intOf]; omega
    · obtain rfl : k = n := by omega
      rw [show ws.take k = ws from List.take_of_length_le (by rw [HN.out]; exact Nat.le_refl _), HANY.out]
      go_wp2_with fail
      have htot := total_any (fun _ => True) A ws c w (fun _ _ => trivial) HX.out HR.out (by rw [HN.out]; omega)
      rw [HN.out, HS.out] at htot
      refine htot.mono ?_
      rintro e w1 ⟨v1, rfl, x1, b1⟩
      have X1 := Lib.hid x1
      have HL := Lib.hid (show Later w w1 from b1)
      clear x1 b1 htot
      go_wp2_with fail
      refine (fit_is _ S (k + 7) _ X1.out (by omega) (by omega) S 0 (fit_id HSI.out)).mono ?_
      rintro e w2 ⟨rfl, b2⟩
      have HL := Lib.hid (HL.out.trans b2)
      clear b2
      go_wp2_with fail
      refine (HPOS.out w2 (HR.out.below HL.out)).mono ?_
      rintro e w3 ⟨v, rfl, h3a⟩
      obtain ⟨g, cap, rfl, hcap⟩ := h3a.form (n := k) (by rw [outL_len, HN.out]) hn1
      have HA := Lib.hid (all_in h3a HL.out)
      clear h3a X1
      go_wp2_with fail
      rw [← negs_zero (outL (-T) S ws)] at HA
      go_loopw [12] (fun i wr => ∃ (z : Nat), i = .int .i64 (z : Int) ∧ z ≤ k ∧ AllW w (negs (outL (-T) S ws) z) (.slice (some ⟨g, 0, none⟩) k cap) wr) (fun i _ => k - (intOf i).toNat)
      case atStart => exact ⟨0, rfl, by omega, HA.out⟩
      case round =>
        clear HA
        obtain ⟨z, rfl, hz, hall⟩ := hrel
        have HA := Lib.hid hall
        clear hall
        have g2 : (0 : Int) ≤ (z : Int) := Int.natCast_nonneg _
        have hol : (outL (-T) S ws).length = k := by rw [outL_len, HN.out]
        by_cases hzk : z < k
        · have g3 : (z : Int) < (k : Int) := by omega
          have hml : (negs (outL (-T) S ws) z).length = k := by rw [negs_len, hol]
          have c1 := HA.out.cell hml hzk
          rw [negs_get (by rw [hol]; exact hzk)] at c1
          have d1 := HA.out.free hml z
          have hli := outL_I HW.out HTN.out (by rw [HN.out]; omega) (i := z) (by rw [HN.out]; exact hzk)
          have hns := negs_step (o := outL (-T) S ws) (z := z) (by rw [hol]; exact hzk)
          obtain ⟨o, ho⟩ : ∃ o, (outL (-T) S ws).getD z 0 = o := ⟨_, rfl⟩
          rw [ho] at c1 hli hns
          have HNS := Lib.hid hns
          have HML := Lib.hid hml
          have f3 : IntKind.i64.wrap (-o) = -o := IntWalk.i64_in _ (by have := HT.out; unfold I64 at this; omega)
          clear hns hml ho hol
          go_wp2_with fail
          go_roundw
          case rel => exact ⟨z + 1, by go_num, by omega, by rw [← HNS.out]; exact HA.out.set HML.out z _⟩
          case measure => simp only [intOf]; omega
        · obtain rfl : z = k := by omega
          rw [negs_all hol] at HA
          clear hol
          go_wp2_with fail
          go_ret2
          exact ⟨_, rfl, HA.out⟩

theorem rout_any (T : Int) (A : Option Addr) (ws : List Int) (c : Nat) (w : World) (hT : I64 T) (hx : ∀ x ∈ ws, I64 x) (hr : Row w 0 A (ints ws)) (hl : ws.length * 8 ≤ 140737488351232) :
    Calls Try.prog 20 #[.int .i64 T, .slice A ws.length c] w (RetL w (outV T ws) (outE T ws)) := by
  by_cases hE : outE T ws = 0
  · obtain ⟨h1, h2⟩ := outE_ok hE
    obtain ⟨_, _, _, _, hn1⟩ := wE_ok h1
    have hV : outV T ws = (outL (max (0 - T) T) ws.sum ws).map (fun x => if T < 0 then -x else x) := by unfold outV; rw [if_pos hE]
    rw [hE, hV]
    by_cases h0 : T < 0
    · refine (rout_neg T A ws c w hT h0 h2 hx hr h1).mono ?_
      rintro e w' ⟨v, rfl, hall⟩
      rw [show max (0 - T) T = -T by omega, show (fun x : Int => if T < 0 then -x else x) = (fun x => -x) by funext x; rw [if_pos h0]]
      exact all_ret hall (by rw [List.length_map, outL_len]; exact hn1)
    · refine (rout_pos T A ws c w hT (by omega) hx hr h1).mono ?_
      rintro e w' ⟨v, rfl, hall⟩
      rw [show max (0 - T) T = T by omega, show (fun x : Int => if T < 0 then -x else x) = id by funext x; rw [if_neg h0]; rfl, List.map_id]
      exact all_ret hall (by rw [outL_len]; exact hn1)
  · have hV : outV T ws = [] := by unfold outV; rw [if_neg hE]
    rw [hV]
    exact rout_bad T A ws c w hT hx hr hl _ rfl hE
end
end Go.Proofs.Ytkceeifhnohioaa.PO
