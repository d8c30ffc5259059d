/- What a book's rows are like behind New and Set; the walk of awake. -/
import Derived.Test.YtbdhbongaikphaaBookH
namespace Go.Proofs.Ytbdhbongaikphaa.BK
open Go.RowKit Go.Proofs.Ytbdhbongaikphaa.Cents
set_option linter.unusedVariables false
set_option linter.unusedSimpArgs false

def ItI (x : It) : Prop := I64 x.tag ∧ I64 x.group ∧ I64 x.method ∧ I64 x.price
theorem new_BkOk {its : List It} (hE : newE its = 0) (hI : ∀ x ∈ its, ItI x) : BkOk its (rows0 its) := by
  unfold newE at hE
  have h1 : ¬ 40 < its.length := fun h => by rw [if_pos h] at hE; omega
  refine ⟨by omega, by simp [rows0], fun x hx => hI x hx, fun i hi => ?_⟩
  rw [rowAt0 hi]
  refine ⟨by simp [Asc], ⟨_, List.mem_singleton_self _, rfl⟩, fun p hp => ?_, by simp⟩
  rw [List.mem_singleton] at hp
  subst hp
  exact (hI _ (itAt_mem hi)).2.2.2
theorem setE_ok {its : List It} {rows : List PRow} {item day n : Int} (h : setE its rows item day n = 0) : inI its.length item = true ∧ 1 ≤ day ∧ day ≤ 1000000 ∧ 1 ≤ n ∧ isAt (rowAt rows item.toNat) day = false ∧ (rowAt rows item.toNat).length ≤ 100 ∧ item.toNat < its.length ∧ 0 ≤ item := by
  unfold setE at h
  split at h
  · rename_i h1
    split at h
    · omega
    · rename_i h2
      split at h
      · omega
      · rename_i h3
        split at h
        · omega
        · rename_i h4
          unfold inI at h1
          have h5 := h1
          simp only [Bool.and_eq_true, decide_eq_true_eq] at h1
          exact ⟨h5, by omega, by omega, by omega, by simpa using h3, by omega, by omega, h1.1⟩
  · omega
theorem set_BkOk {its : List It} {rows : List PRow} (hk : BkOk its rows) (item day n : Int) (hn : I64 n) : BkOk its (setR its rows item day n) := by
  unfold setR
  split
  · rename_i h
    obtain ⟨h1, h2, h3, h4, h5, h6, h7, h8⟩ := setE_ok h
    refine ⟨hk.len, by rw [List.length_set]; exact hk.rlen, hk.i64, fun i hi => ?_⟩
    rw [rowAt_set (by rw [hk.rlen]; exact h7)]
    split
    · have hro := hk.row item.toNat h7
      refine ⟨put_asc hro.asc h5, ?_, fun p hp => ?_, by rw [put_len]; omega⟩
      · obtain ⟨p, hp, e⟩ := hro.first
        exact ⟨p, (mem_put _ _ _ _).2 (.inr hp), e⟩
      · rcases (mem_put _ _ _ _).1 hp with e | e
        · rw [e]; exact hn
        · exact hro.i64 p e
    · exact hk.row i hi
  · exact hk
theorem fr_below {S : Nat → Prop} {B : Nat} {w1 w2 : World} (h : Fr S w1 w2) (hB : B ≤ w1.heap.size) (hS : ∀ k, S k → B ≤ k) : Below B w1 w2 :=
  ⟨h.os, h.tape, h.output, h.size, fun i hi => h.block i (by omega) (fun hs => by have := hS i hs; omega)⟩
def its1 : List It := [⟨0, 0, 0, 100⟩]
def rows1 : List PRow := rows0 its1
def rows2 : List PRow := setR its1 rows1 0 10 120
theorem ok1 : BkOk its1 rows1 := new_BkOk (by decide) (by intro x hx; simp [its1] at hx; subst hx; refine ⟨?_, ?_, ?_, ?_⟩ <;> exact ⟨by decide, by decide⟩)
theorem ok2 : BkOk its1 rows2 := set_BkOk ok1 0 10 120 (by unfold I64; omega)
theorem s1 : setE its1 rows1 0 10 120 = 0 := by decide +kernel
theorem s2 : setE its1 rows2 0 10 130 = 6 ∧ setR its1 rows2 0 10 130 = rows2 := by decide +kernel
theorem p1 : priceN its1 rows2 0 9 = 100 ∧ priceE its1.length 0 9 = 0 := by decide +kernel
theorem p2 : priceN its1 rows2 0 10 = 120 ∧ priceE its1.length 0 10 = 0 := by decide +kernel
theorem p3 : priceN its1 rows2 1 10 = 0 ∧ priceE its1.length 1 10 = 5 := by decide +kernel
theorem a1 : aloneN its1 rows2 ⟨0, 3, 0, 1, 1⟩ 11 = 360 ∧ aloneE its1 rows2 ⟨0, 3, 0, 1, 1⟩ 11 = 0 := by decide +kernel
theorem k1 : checkE its1.length [⟨0, 3, 0, 1, 1⟩] = 0 := by decide +kernel
theorem k2 : checkE its1.length [] = 1 := by decide +kernel
theorem i1 : itN its1 0 = ⟨0, 0, 0, 100⟩ ∧ inI its1.length 0 = true := by decide +kernel

theorem row_one (w : World) (x : It) : Row (w.alloc (.cells #[.int .i64 x.tag, .int .i64 x.group, .int .i64 x.method, .int .i64 x.price] 50)) 0 (some ⟨w.heap.size, 0, none⟩) (icells [x]) :=
  Row.of_blk (Blk.new w _ _) (Nat.zero_le _) (by simp [icells, It.cell])
theorem row_ln (w : World) (x : Ln) : Row (w.alloc (.cells #[.int .i64 x.item, .int .i64 x.units, .int .i64 x.charge, .int .i64 x.first, .int .i64 x.last] 45)) 0 (some ⟨w.heap.size, 0, none⟩) (lcells [x]) :=
  Row.of_blk (Blk.new w _ _) (Nat.zero_le _) (by simp [lcells, Ln.cell])
end Go.Proofs.Ytbdhbongaikphaa.BK
