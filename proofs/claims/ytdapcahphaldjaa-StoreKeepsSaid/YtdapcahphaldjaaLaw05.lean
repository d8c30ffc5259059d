/- The walk of the law StoreDoes. -/
import Derived.Test.YtdapcahphaldjaaStoreAw
import Derived.Test.YtdapcahphaldjaaRowF
namespace Go.Proofs.Ytdapcahphaldjaa.Store
open Go.RowKit
set_option linter.unusedVariables false
set_option linter.unusedSimpArgs false

theorem rnew_bad (n : Int) (w : World) (h : n < 3 ∨ 4096 < n) : Calls Try.prog 15 #[.int .i64 n] w fun e w' => e = .returned (.tuple #[.pointer none, .int .i64 1]) ∧ w = w' := by
  by_cases c : n < 3
  · clear h
    go_enter Try.func15, Try.ntmps15
    go_wp2_with fail
    go_ret2
    exact ⟨rfl, rfl⟩
  · have d : 4096 < n := by omega
    clear h
    go_enter Try.func15, Try.ntmps15
    go_wp2_with fail
    go_ret2
    exact ⟨rfl, rfl⟩
def OpV.I (o : OpV) : Prop := I64' o.dd ∧ I64' o.at_ ∧ I64' o.nn ∧ I64' o.tt
theorem SS.Ok.op {s : SS} {m : Nat} (h : s.Ok m) (o : OpV) (ho : o.I) : (s.op o).Ok ((m + 1 : Nat) : Int) := by
  unfold SS.op
  split
  · have := h.write o.at_ o.block
    exact this.more (by omega)
  · split
    · exact (h.fuse ho.2.2.1 ho.2.2.2).more (by omega)
    · split
      · exact h.restart.more (by omega)
      · exact h.more (by omega)
def ocells (xs : List OpV) : List Value := xs.flatMap OpV.cells
theorem op_len (o : OpV) : o.cells.length = 6 := rfl
theorem op_cells {w : World} {A : Option Addr} {xs : List OpV} (hr : Row w 0 A (ocells xs)) {j : Nat} (h : j < xs.length) :
    ∃ ad, A = some ad ∧ w.cell? (ad.add (j * 6)) = some (.int .i64 xs[j].dd) ∧ w.cell? ⟨(ad.add (j * 6)).block, (ad.add (j * 6)).off + 1, none⟩ = some (.int .i64 xs[j].at_) ∧ w.cell? ⟨(ad.add (j * 6)).block, (ad.add (j * 6)).off + 2, none⟩ = some (.int .i64 xs[j].nn) ∧
      w.cell? ⟨(ad.add (j * 6)).block, (ad.add (j * 6)).off + 3, none⟩ = some (.int .i64 xs[j].tt) ∧ w.cell? ⟨(ad.add (j * 6)).block, (ad.add (j * 6)).off + 4, none⟩ = some (.string xs[j].b) ∧ w.cell? ⟨(ad.add (j * 6)).block, (ad.add (j * 6)).off + 5, none⟩ = some (.bool xs[j].whole) := by
  obtain ⟨ad, e, _, h0, hi⟩ := Row.elem op_len (by omega) hr h
  exact ⟨ad, e, h0 _ rfl, hi 1 _ (by omega) rfl, hi 2 _ (by omega) rfl, hi 3 _ (by omega) rfl, hi 4 _ (by omega) rfl, hi 5 _ (by omega) rfl⟩

set_option maxHeartbeats 2000000 in
set_option maxRecDepth 100000 in
theorem does_out (n : Int) (A : Option Addr) (xs : List OpV) (c : Nat) (w : World) (h : (40 < n ∧ n ≤ 4096) ∨ 40 < xs.length) (hl : xs.length * 56 ≤ 140737488351232) :
    Calls Try.prog 3 #[.int .i64 n, .slice A xs.length c] w fun e w' => e = .returned (.bool true) ∧ Below w.heap.size w w' := by
  generalize xs.length = m at *
  by_cases d : 40 < n ∧ n ≤ 4096
  · obtain ⟨d1, d2⟩ := d
    clear h
    go_enter Try.func3, Try.ntmps3
    go_wp2_with fail
    refine (awake05 _).mono ?_
    rintro e w1 ⟨rfl, hb⟩
    have HB := Lib.hid hb
    clear hb
    go_wp2_with fail
    go_ret
    exact ⟨rfl, HB.out⟩
  · have hm : 40 < m := by omega
    have hm2 : decide ((40 : Int) < (m : Int)) = true := by simp; omega
    by_cases d1 : 40 < n
    · have d2 : 4096 < n := by omega
      clear h d
      go_enter Try.func3, Try.ntmps3
      go_wp2_with fail
      refine (awake05 _).mono ?_
      rintro e w1 ⟨rfl, hb⟩
      have HB := Lib.hid hb
      clear hb
      go_wp2_with fail
      go_ret
      exact ⟨rfl, HB.out⟩
    · clear h d
      go_enter Try.func3, Try.ntmps3
      go_wp2_with fail
      refine (awake05 _).mono ?_
      rintro e w1 ⟨rfl, hb⟩
      have HB := Lib.hid hb
      clear hb
      go_wp2_with fail
      go_ret
      exact ⟨rfl, HB.out⟩
set_option maxHeartbeats 2000000 in
set_option maxRecDepth 100000 in
theorem does_bad (n : Int) (A : Option Addr) (m c : Nat) (w : World) (h : n < 3 ∨ 4096 < n) (hm : m ≤ 40) :
    Calls Try.prog 3 #[.int .i64 n, .slice A m c] w fun e w' => e = .returned (.bool true) ∧ Below w.heap.size w w' := by
  have H := Lib.hid h
  have hm2 : decide ((40 : Int) < (m : Int)) = false := by simp; omega
  have hcs : (n ≤ 40) ∨ (40 < n ∧ 4096 < n) := by omega
  rcases hcs with d | ⟨d, d2⟩
  all_goals
    clear h
    go_enter Try.func3, Try.ntmps3
    go_wp2_with fail
    refine (awake05 _).mono ?_
    rintro e w1 ⟨rfl, hb⟩
    have HB := Lib.hid hb
    clear hb
    go_wp2_with fail
    refine (new_bad n _ H.out).mono ?_
    rintro e w2 ⟨rfl, rfl⟩
    go_wp2_with fail
    refine (rnew_bad n _ H.out).mono ?_
    rintro e w2 ⟨rfl, rfl⟩
    go_wp2_with fail
    go_loop [9] (fun v => v = .int .i64 0) (fun v => 0)
    case atStart => rfl
    case round =>
      subst hrel
      go_wp2_with fail
      go_ret
      exact ⟨rfl, HB.out⟩
set_option maxHeartbeats 2000000 in
set_option maxRecDepth 100000 in
theorem does_in (n : Nat) (A : Option Addr) (xs : List OpV) (c : Nat) (w : World) (h3 : 3 ≤ n) (hn : n ≤ 40) (hr : Row w 0 A (ocells xs)) (hx : ∀ o ∈ xs, OpV.I o) (hm : xs.length ≤ 40) :
    Calls Try.prog 3 #[.int .i64 (n : Int), .slice A xs.length c] w fun e w' => e = .returned (.bool true) ∧ Below w.heap.size w w' := by
  have HR := Lib.hid hr
  have HX := Lib.hid hx
  obtain ⟨m, hml⟩ : ∃ m, xs.length = m := ⟨_, rfl⟩
  rw [hml] at hm ⊢
  have HM := Lib.hid hml
  have hm2 : decide ((40 : Int) < (m : Int)) = false := by simp; omega
  have hn2 : decide ((40 : Int) < (n : Int)) = false := by simp; omega
  clear hr hx hml
  go_enter Try.func3, Try.ntmps3
  go_wp2_with fail
  refine (awake05 _).mono ?_
  rintro e w1 ⟨rfl, hb⟩
  have HB := Lib.hid hb
  clear hb
  go_wp2_with fail
  refine (new_ok n _ h3 (by omega)).mono ?_
  rintro e w2 ⟨S, G, rfl, hS, hG, hst, hb⟩
  have HS := Lib.hid hst
  have HSS := Lib.hid (And.intro hS hG)
  have HB2 := Lib.hid (HB.out.trans (hb.mono HB.out.size))
  clear hst hb hS hG
  go_wp2_with fail
  refine (rnew_ok n _ h3 (by omega)).mono ?_
  rintro e w3 ⟨R, g, cap, rfl, hR, hg, hrw, hb⟩
  have hbo : Both w S G n R g cap (SS.new n) (SS.new n) w3 := by
    have h1 := HS.out.lt1
    have h2 := HS.out.lt2
    have h3 := HB.out.size
    obtain ⟨h4, h5⟩ := HSS.out
    exact ⟨HS.out.later hb, hrw, HB2.out.trans (hb.mono HB2.out.size), by omega, by omega, by have := HB2.out.size; omega, by have := HB2.out.size; omega, by omega, by omega, by omega, by omega⟩
  have HBO := Lib.hid hbo
  clear hR hg hrw hb hbo HS HSS HB HB2
  go_wp2_with fail
  go_loopw [9] (fun v wr => ∃ (k : Nat) (s : SS), v = .int .i64 (k : Int) ∧ k ≤ m ∧ s.Ok k ∧ Both w S G n R g cap s s wr) (fun v _ => m - (intOf v).toNat)
  case atStart => exact ⟨0, _, rfl, by omega, SS.Ok.new n, HBO.out⟩
  case round =>
    obtain ⟨k, s, rfl, hk, hok, hb⟩ := hrel
    have HB := Lib.hid hb
    have HK := Lib.hid hok
    clear hb hok
    by_cases hlt : k < m
    · obtain ⟨ad, rfl, c0, c1, c2, c3, c4, c5⟩ := op_cells (HR.out.below HB.out.be) (j := k) (by rw [HM.out]; exact hlt)
      obtain ⟨o, ho⟩ : ∃ o, o = xs[k]'(by rw [HM.out]; exact hlt) := ⟨_, rfl⟩
      have hoi : o.I := by rw [ho]; exact HX.out _ (List.getElem_mem _)
      rw [← ho] at c0 c1 c2 c3 c4 c5
      have HOI := Lib.hid hoi
      clear ho hoi
      have g0 : (0 : Int) ≤ (k : Int) := Int.natCast_nonneg _
      have g1 : (k : Int) < (m : Int) := by omega
      obtain ⟨dd, at_, nn, tt, b, whole⟩ := o
      dsimp only at c0 c1 c2 c3 c4 c5
      by_cases hbl : 100 < b.size
      · have hb1 : decide ((100 : Int) < (b.size : Int)) = true := by simp; omega
        clear hbl
        go_wp2_with fail
        go_ret
        exact ⟨rfl, HB.out.be⟩
      · have hb1 : decide ((100 : Int) < (b.size : Int)) = false := by simp; omega
        clear hbl
        go_wp2_with fail
        refine (do_any w S G n R g cap s _ ⟨dd, at_, nn, tt, b, whole⟩ HB.out (HK.out.more (by omega)) HOI.out.2.2.1 HOI.out.2.2.2).mono ?_
        rintro e w4 ⟨rfl, hb⟩
        have HB := Lib.hid hb
        clear hb
        go_wp2_with fail
        refine (same_any S G n R g cap _ _ HB.out.st HB.out.rw).mono ?_
        rintro e w5 ⟨rfl, q, rfl⟩
        go_wp2_with fail
        go_roundw
        case rel => exact ⟨k + 1, _, by go_num, by omega, HK.out.op _ HOI.out, HB.out.drewN q⟩
        case measure => simp only [intOf]; omega
    · obtain rfl : k = m := by omega
      go_wp2_with fail
      go_ret
      exact ⟨rfl, HB.out.be⟩
theorem does_walk (n : Int) (A : Option Addr) (xs : List OpV) (c : Nat) (w : World) (hn : I64' n) (hx : ∀ o ∈ xs, OpV.I o) (hr : Row w 0 A (ocells xs)) (hl : xs.length * 56 ≤ 140737488351232) :
    Calls Try.prog 3 #[.int .i64 n, .slice A xs.length c] w fun e w' => e = .returned (.bool true) ∧ Below w.heap.size w w' := by
  by_cases h : (40 < n ∧ n ≤ 4096) ∨ 40 < xs.length
  · exact does_out n A xs c w h hl
  · by_cases d : n < 3 ∨ 4096 < n
    · exact does_bad n A xs.length c w d (by omega)
    · obtain ⟨j, rfl⟩ := Int.eq_ofNat_of_zero_le (show 0 ≤ n by omega)
      exact does_in j A xs c w (by omega) (by omega) hr hx (by omega)
end Go.Proofs.Ytdapcahphaldjaa.Store
