/- The walk of the law ConsiderTells. -/
import Derived.Test.YtejkamgidhpcjaaRef12M
import Derived.Test.YtejkamgidhpcjaaLaw12
namespace Go.Proofs.Ytejkamgidhpcjaa.CO
open Go.RowKit Go.Proofs.Ytejkamgidhpcjaa.Cents Go.Proofs.Ytejkamgidhpcjaa.Exact
set_option linter.unusedVariables false
set_option linter.unusedSimpArgs false

theorem rlikely_bad (f b : Int) (A : Option Addr) (xs : List Mb) (c : Nat) (w : World) (hr : Row w 0 A (mcells xs)) (hl : xs.length ≤ 1000000) (e0 : Int) (h0 : checkE f xs b = e0) (hne : e0 ≠ 0) :
    Calls Try.prog 13 #[.int .i64 f, .slice A xs.length c, .int .i64 b] w fun e w' => e = .returned (.tuple #[.int .i64 0, .int .i64 e0]) ∧ Below w.heap.size w w' := by
  have HC := Lib.hid (rwrong_any f b A xs c w hr hl e0 h0)
  have hb : (e0 != 0) = true := by simpa using hne
  generalize xs.length = n at *
  clear hr h0 hne
  go_enter Try.func13, Try.ntmps13
  go_wp2_with fail
  refine HC.out.mono ?_
  rintro e w1 ⟨rfl, rfl⟩
  go_wp2_with fail
  go_ret2
  exact ⟨rfl, Below.refl _ _⟩
theorem rmean_bad (f : Int) (A : Option Addr) (xs : List Mb) (c : Nat) (w : World) (hr : Row w 0 A (mcells xs)) (hl : xs.length ≤ 1000000) (e0 : Int) (h0 : checkE f xs 0 = e0) (hne : e0 ≠ 0) :
    Calls Try.prog 15 #[.int .i64 f, .slice A xs.length c] w fun e w' => e = .returned (.tuple #[.int .i64 0, .int .i64 e0]) ∧ Below w.heap.size w w' := by
  have HC := Lib.hid (rwrong_any f 0 A xs c w hr hl e0 h0)
  have hb : (e0 != 0) = true := by simpa using hne
  generalize xs.length = n at *
  clear hr h0 hne
  go_enter Try.func15, Try.ntmps15
  go_wp2_with fail
  refine HC.out.mono ?_
  rintro e w1 ⟨rfl, rfl⟩
  go_wp2_with fail
  go_ret2
  exact ⟨rfl, Below.refl _ _⟩
theorem rlikely_any (f b : Int) (A : Option Addr) (xs : List Mb) (c : Nat) (w : World) (hr : Row w 0 A (mcells xs)) (hi : ∀ m ∈ xs, Mb.I m) (hf : I64 f) (hl : xs.length ≤ 1000000) (x y : Int) (hp : likelyN f xs b = x ∧ likelyE f xs b = y) :
    Calls Try.prog 13 #[.int .i64 f, .slice A xs.length c, .int .i64 b] w fun e w' => e = .returned (.tuple #[.int .i64 x, .int .i64 y]) ∧ Below w.heap.size w w' := by
  unfold likelyN likelyE at hp
  by_cases h : checkE f xs b = 0
  · rw [if_pos h, if_pos h] at hp
    exact rlikely_ok f b A xs c w hr hi hf h x y hp
  · rw [if_neg h, if_neg h] at hp
    rw [← hp.1]
    exact rlikely_bad f b A xs c w hr hl y hp.2 (by rw [← hp.2]; exact h)
theorem rmean_any (f : Int) (A : Option Addr) (xs : List Mb) (c : Nat) (w : World) (hr : Row w 0 A (mcells xs)) (hi : ∀ m ∈ xs, Mb.I m) (hf : I64 f) (hl : xs.length ≤ 1000000) (x y : Int) (hp : meanN f xs = x ∧ meanE f xs = y) :
    Calls Try.prog 15 #[.int .i64 f, .slice A xs.length c] w fun e w' => e = .returned (.tuple #[.int .i64 x, .int .i64 y]) ∧ Below w.heap.size w w' := by
  unfold meanN meanE at hp
  by_cases h : checkE f xs 0 = 0
  · rw [if_pos h, if_pos h] at hp
    exact rmean_ok f A xs c w hr hi hf h x y hp
  · rw [if_neg h, if_neg h] at hp
    rw [← hp.1]
    exact rmean_bad f A xs c w hr hl y hp.2 (by rw [← hp.2]; exact h)

theorem info_rmb : (Try.prog.info? 27).map (fun i => (i.zero, i.size, i.bytes)) = some (some (.agg #[.int .i64 0, .int .i64 0]), 2, 16) := by kernel_rfl
theorem E_rmb : ElemT Try.prog 24 27 2 16 := .mk' Try.underlying24 info_rmb rfl (by decide)
structure CpW (w0 : World) (l : List Mb) (v : Value) (w : World) : Prop where
  own : w.ownsRow w0.heap.size 27 2 v l.length (mcells l)
  be : Below w0.heap.size w0 w
theorem CpW.later {w0 w w' : World} {l : List Mb} {v : Value} (h : CpW w0 l v w) (hb : Below w.heap.size w w') : CpW w0 l v w' :=
  ⟨own_fr h.own (Fr.later (S := fun _ => False) hb) (by simp), h.be.trans (hb.mono h.be.size)⟩
theorem CpW.step {w0 w w1 : World} {l : List Mb} {v v' : Value} {m : Mb} {o : Obj} (h : CpW w0 l v w) (hown : w1.ownsRow w0.heap.size 27 2 v' (l.length + 1) (mcells l ++ m.cells)) (hg : (w.alloc o).grownBy w1 v.ownBlock) : CpW w0 (l ++ [m]) v' w1 := by
  refine ⟨?_, (h.be.alloc h.be.size _).grown hg (by simp; have := h.be.size; omega) (fun j hj => by have := (h.own.lt j hj).1; omega)⟩
  rw [List.length_append, show mcells (l ++ [m]) = mcells l ++ m.cells by simp [mcells]]
  exact hown

set_option maxHeartbeats 2000000 in
set_option maxRecDepth 100000 in
theorem tells_in (f b : Int) (A : Option Addr) (xs : List Mb) (c : Nat) (w : World) (hr : Row w 0 A (mcells xs)) (hx : ∀ m ∈ xs, Mb.I m) (hf : I64 f) (hl : xs.length ≤ 40) (x1 y1 x2 y2 : Int) (h1 : likelyN f xs b = x1 ∧ likelyE f xs b = y1) (h2 : meanN f xs = x2 ∧ meanE f xs = y2) :
    Calls Try.prog 3 #[.int .i64 f, .slice A xs.length c, .int .i64 b] w fun e w' => e = .returned (.bool true) ∧ Below w.heap.size w w' := by
  have HR := Lib.hid hr
  have L1 := Lib.hid (fun (w' : World) (h : Row w' 0 A (mcells xs)) => likely_any f b A xs c w' h hx hf (by omega) x1 y1 h1)
  have L2 := Lib.hid (fun (w' : World) (h : Row w' 0 A (mcells xs)) => mean_any f A xs c w' h hx hf (by omega) x2 y2 h2)
  have R1 := Lib.hid (fun (B : Option Addr) (cb : Nat) (w' : World) (h : Row w' 0 B (mcells xs)) => rlikely_any f b B xs cb w' h hx hf (by omega) x1 y1 h1)
  have R2 := Lib.hid (fun (B : Option Addr) (cb : Nat) (w' : World) (h : Row w' 0 B (mcells xs)) => rmean_any f B xs cb w' h hx hf (by omega) x2 y2 h2)
  obtain ⟨n, hn⟩ : ∃ n, xs.length = n := ⟨_, rfl⟩
  rw [hn] at hl L1 L2 R1 R2 ⊢
  have HN := Lib.hid hn
  have hn2 : decide ((40 : Int) < (n : Int)) = false := by simp; omega
  clear hr hx hf h1 h2 hn
  go_enter Try.func3, Try.ntmps3
  go_wp2_with fail
  refine (awake12 _).mono ?_
  rintro e w1 ⟨rfl, hb⟩
  have HC := Lib.hid (CpW.mk (w0 := w) (l := []) (v := .slice none 0 0) (World.ownsRow_nil _ _ _ _) hb)
  clear hb
  go_wp2_with fail
  go_loopw [7, 25] (fun v i wr => ∃ (k : Nat) (B : Option Addr) (cb : Nat), v = .slice B k cb ∧ i = .int .i64 (k : Int) ∧ k ≤ n ∧ CpW w (xs.take k) v wr) (fun _ i _ => n - (intOf i).toNat)
  case atStart => exact ⟨0, none, 0, rfl, rfl, by omega, by simpa using HC.out⟩
  case round =>
    clear HC
    obtain ⟨k, B, cb, rfl, rfl, hk, hc⟩ := hrel
    have HC := Lib.hid hc
    clear hc
    by_cases hlt : k < n
    · obtain ⟨ad, rfl, c0, c1⟩ := mb_cells (HR.out.below HC.out.be) (j := k) (by rw [HN.out]; exact hlt)
      obtain ⟨m, hm⟩ : ∃ m, m = xs[k]'(by rw [HN.out]; exact hlt) := ⟨_, rfl⟩
      have htk : xs.take (k + 1) = xs.take k ++ [m] := by rw [List.take_succ_eq_append_getElem (by rw [HN.out]; exact hlt), ← hm]
      rw [← hm] at c0 c1
      obtain ⟨a, ch⟩ := m
      dsimp only at c0 c1
      have HT := Lib.hid htk
      have HTL := Lib.hid (show (xs.take k).length = k by rw [List.length_take, HN.out]; omega)
      have g0 : (0 : Int) ≤ (k : Int) := Int.natCast_nonneg _
      have g1 : (k : Int) < (n : Int) := by omega
      have hb1' : (k + 1) * 16 ≤ 140737488355328 := by omega
      have hb2' : k + 1 ≤ maxLen := by unfold maxLen; omega
      have HC2 := Lib.hid (HC.out.later (alloc1 wr (.cells #[.int .i64 a, .int .i64 ch] 26)))
      have OW := Lib.hid (show (wr.alloc (.cells #[.int .i64 a, .int .i64 ch] 26)).ownsRow w.heap.size 27 2 (.slice B k cb) k (mcells (xs.take k)) by have := HC2.out.own; rw [HTL.out] at this; exact this)
      have hsz : w.heap.size ≤ wr.heap.size := HC.out.be.size
      clear htk hm
      go_wp2_with (at_builtin; refine wpList_app E_rmb rfl (.tmp 29) (.tmp 31) rfl rfl (OW.out.alloc _) ⟨wr.heap.size + 1, 0, none⟩ 1 1 [.int .i64 a, .int .i64 ch] rfl rfl (World.news_of_block (by have := heap_alloc_new (wr.alloc (.cells #[.int .i64 a, .int .i64 ch] 26)) (.cells #[.int .i64 a, .int .i64 ch] 27); simpa using this)) (by simp [Value.oneCell']) hb1' hb2' (by simp; omega) (by decide) ?_; intro g cap w4 hown4 hg4 hat4; have HO4 := Lib.hid hown4; have HG4 := Lib.hid hg4; clear hown4 hg4 hat4)
      go_roundw
      case rel => exact ⟨k + 1, _, _, rfl, by go_num, by omega, by rw [HT.out]; exact HC2.out.step (m := ⟨a, ch⟩) (by rw [HTL.out]; exact HO4.out) (by have := HG4.out; exact this)⟩
      case measure => simp only [intOf]; omega
    · obtain rfl : k = n := by omega
      have htk : xs.take k = xs := List.take_of_length_le (by rw [HN.out]; omega)
      rw [htk] at HC
      have RC := Lib.hid (show Row wr 0 B (mcells xs) from (Row.of_own (show wr.ownsRow w.heap.size 27 2 (.slice B k cb) k (mcells xs) by have := HC.out.own; rw [HN.out] at this; exact this) (by decide)).weak (Nat.zero_le _))
      have HB := Lib.hid HC.out.be
      clear htk HC
      go_wp2_with fail
      refine (L1.out _ (HR.out.below HB.out)).mono ?_
      rintro e w3 ⟨rfl, hb⟩
      have HB := Lib.hid (HB.out.trans (hb.mono HB.out.size))
      have RC := Lib.hid (RC.out.below hb)
      clear hb
      go_wp2_with fail
      refine (R1.out B cb _ RC.out).mono ?_
      rintro e w4 ⟨rfl, hb⟩
      have HB := Lib.hid (HB.out.trans (hb.mono HB.out.size))
      have RC := Lib.hid (RC.out.below hb)
      clear hb
      go_wp2_with fail
      refine (L2.out _ (HR.out.below HB.out)).mono ?_
      rintro e w5 ⟨rfl, hb⟩
      have HB := Lib.hid (HB.out.trans (hb.mono HB.out.size))
      have RC := Lib.hid (RC.out.below hb)
      clear hb
      go_wp2_with fail
      refine (R2.out B cb _ RC.out).mono ?_
      rintro e w6 ⟨rfl, hb⟩
      have HB := Lib.hid (HB.out.trans (hb.mono HB.out.size))
      clear hb
      go_wp2_with fail
      go_ret
      exact ⟨rfl, HB.out⟩
theorem tells_out (f b : Int) (A : Option Addr) (n c : Nat) (w : World) (h : 40 < n) (hn : n ≤ 140737488351232) :
    Calls Try.prog 3 #[.int .i64 f, .slice A n c, .int .i64 b] w fun e w' => e = .returned (.bool true) ∧ Below w.heap.size w w' := by
  have hn2 : decide ((40 : Int) < (n : Int)) = true := by simp; omega
  clear h
  go_enter Try.func3, Try.ntmps3
  go_wp2_with fail
  refine (awake12 _).mono ?_
  rintro e w1 ⟨rfl, hb⟩
  have HB := Lib.hid hb
  clear hb
  go_wp2_with fail
  go_ret
  exact ⟨rfl, HB.out⟩
theorem tells_walk (f : Int) (A : Option Addr) (xs : List Mb) (c : Nat) (b : Int) (w : World) (hf : I64 f) (hx : ∀ m ∈ xs, Mb.I m) (hr : Row w 0 A (mcells xs)) (hl : xs.length * 16 ≤ 140737488351232) (_ : I64 b) :
    Calls Try.prog 3 #[.int .i64 f, .slice A xs.length c, .int .i64 b] w fun e w' => e = .returned (.bool true) ∧ Below w.heap.size w w' := by
  by_cases h : 40 < xs.length
  · exact tells_out f b A xs.length c w h (by omega)
  · exact tells_in f b A xs c w hr hx hf (by omega) _ _ _ _ ⟨rfl, rfl⟩ ⟨rfl, rfl⟩
end Go.Proofs.Ytejkamgidhpcjaa.CO
