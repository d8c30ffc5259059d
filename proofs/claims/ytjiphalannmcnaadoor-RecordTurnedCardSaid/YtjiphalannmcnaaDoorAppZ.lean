/- Appending so many zeros is appending a text of them. -/
import Derived.Lib.AppendStr
import Derived.Test.YtjiphalannmcnaaDoorRecA
namespace Go.Proofs.YtjiphalannmcnaaDoor.REC
set_option linter.unusedVariables false
set_option linter.unusedSimpArgs false
open Go.Lib

def zs (k : Nat) : ByteArray := ⟨Array.replicate k 0⟩
theorem zs_size (k : Nat) : (zs k).size = k := by simp [zs, ByteArray.size]
theorem zs_cells (k : Nat) : strCells (zs k) = List.replicate k (.int .u8 0) := by simp [strCells, zs]
theorem zero_cells (k : Nat) : Builtin.zeroCells (Value.int .u8 0).cells k = Array.replicate k (.int .u8 0) := by
  simp only [Builtin.zeroCells, Value.cells]
  apply Array.ext
  · simp
  · intro j h1 h2
    simp [Nat.mod_one]
theorem run_first_zs {P : Program} (w : World) (size k : Nat) : (Builtin.firstCells size k (.string (zs k))).run P w = .ok (Array.replicate k (.int .u8 0)) w := by
  have := run_firstCells_string (P := P) w size (zs k)
  rw [zs_size, zs_cells] at this
  rw [this]
  simp
theorem run_zeros {P : Program} (w : World) (t u us ty e : TypeId) (i : TypeInfo) (ht : P.underlying t = some (.slice e)) (hu : P.underlying u = some (.int .i64)) (hus : P.underlying us = some .string) (hi : P.info? e = some i) (hz : i.zero = some (.int .u8 0)) (hsize : i.size = 1) (hby : i.bytes = 1)
    (b : Option Addr) (n cap k : Nat) (hk : k ≤ 140737488355328) (hn : n + k ≤ 140737488355328) :
    (Builtin.append_ #[t, u] ty #[.slice b n cap, .int .i64 (k : Int)]).run P w = (Builtin.append_ #[t, us] ty #[.slice b n cap, .string (zs k)]).run P w := by
  have hw : IntKind.i64.wrap (k : Int) = (k : Int) := IntWalk.i64_in _ (by omega)
  have h0 : ¬ ((k : Int) < 0) := by omega
  have h48 : ¬ ((281474976710656 : Int) < (k : Int)) := by omega
  have hf := run_first_zs (P := P) w 1 k
  have hfd := run_first_zs (P := P) w.drew 1 k
  by_cases hroom : n + k ≤ cap
  · cases b with
    | none =>
      simp [Builtin.append_, run_underlying ht, run_underlying hu, run_underlying hus, sizeOf, typeInfo, zeroValue, hi, hz, hsize, hby, Builtin.lenOf, zs_size, hroom, hw, h0, h48, hf, asInt, asIntOf]
    | some a =>
      simp [Builtin.append_, run_underlying ht, run_underlying hu, run_underlying hus, sizeOf, typeInfo, zeroValue, hi, hz, hsize, hby, Builtin.lenOf, zs_size, hroom, hw, h0, h48, hf, asInt, asIntOf]
      by_cases hk0 : k = 0
      · subst hk0
        simp
      · rw [if_neg hk0, zero_cells]
        simp
  · have h63 : ¬ ((9223372036854775807 : Int) < (n : Int) + (k : Int)) := by omega
    have hg : ¬ (281474976710656 < Builtin.nextslicecap (n + k) cap) := by
      have := growslice_fits (need := n + k) (old := cap) (bytes := 1) (by omega) (by omega)
      omega
    have hfa : ∀ w' : World, (Builtin.firstCells 1 k (.string (zs k))).run P w' = .ok (Array.replicate k (.int .u8 0)) w' := fun w' => run_first_zs w' 1 k
    by_cases hk0 : k = 0
    · simp [Builtin.append_, run_underlying ht, run_underlying hu, run_underlying hus, sizeOf, typeInfo, zeroValue, hi, hz, hsize, hby, Builtin.lenOf, zs_size, hroom, hw, h0, h48, h63, hg, hfa, asInt, asIntOf, zero_cells]
      subst hk0
      simp
    · simp [Builtin.append_, run_underlying ht, run_underlying hu, run_underlying hus, sizeOf, typeInfo, zeroValue, hi, hz, hsize, hby, Builtin.lenOf, zs_size, hroom, hw, h0, h48, h63, hg, hfa, asInt, asIntOf, zero_cells, hk0]
/-- THE LAW: appending k zeros to an owned row of bytes. -/
theorem run_own_zeros {P : Program} (w : World) (base : Nat) (t u us ty e : TypeId) (i : TypeInfo) (ht : P.underlying t = some (.slice e)) (hu : P.underlying u = some (.int .i64)) (hus : P.underlying us = some .string) (hi : P.info? e = some i) (hz : i.zero = some (.int .u8 0)) (hsize : i.size = 1) (hby : i.bytes = 1)
    (b : Option Addr) (n cap k : Nat) (xs : List Value) (hown : w.ownsRow base e 1 (.slice b n cap) n xs) (hn : n + k ≤ 140737488355328) (hbase : base ≤ w.heap.size) :
    ∃ v' w', (Builtin.append_ #[t, u] ty #[.slice b n cap, .int .i64 (k : Int)]).run P w = .ok v' w' ∧ w'.ownsRow base e 1 v' (n + k) (xs ++ List.replicate k (.int .u8 0)) ∧ w.grownBy w' (Value.slice b n cap).ownBlock := by
  obtain ⟨v', w', h1, h2, h3, _⟩ := run_append_own_string (P := P) w base t us ty e i ht hus hi hz hsize hby _ n xs hown (zs k) (by rw [zs_size]; unfold maxLen; omega) (by rw [zs_size]; exact hn) hbase
  rw [zs_size, zs_cells] at h2
  exact ⟨v', w', (run_zeros w t u us ty e i ht hu hus hi hz hsize hby b n cap k (by omega) hn).trans h1, h2, h3⟩
end Go.Proofs.YtjiphalannmcnaaDoor.REC
