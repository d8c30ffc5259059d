/- The walks of the program's store. -/
import Derived.Test.YtdapcahphaldjaaProg
import Derived.Test.YtdapcahphaldjaaStoreMath
import Derived.Test.YtdapcahphaldjaaMem2
import Derived.Lib.SlBuf
import Derived.Lib.BufferWrite
import Derived.Lib.SlBytesRow
import Derived.Deep.QuietTactic
import Derived.BigQuiet
import Derived.StillTailTactics
namespace Go.Proofs.Ytdapcahphaldjaa.Store
open Go.RowKit
set_option linter.unusedVariables false
set_option linter.unusedSimpArgs false

def I64' (n : Int) : Prop := -9223372036854775808 ≤ n ∧ n < 9223372036854775808
/-- The store as it lies: its box S, its blocks' row G. -/
structure StW (S G n : Nat) (s : SS) (w : World) : Prop where
  bs : Blk w S 74 #[.slice (some ⟨G, 0, none⟩) n n, .int .i64 s.left, .int .i64 s.torn, .bool s.down, .int .i64 s.many]
  bg : Blk w G 80 (cells64 s.bl).toArray
  ne : S ≠ G
  len : s.bl.length = n
  all : All64 s.bl
  lo : 3 ≤ n
  hi : n ≤ 4096
/-- What the walk wants of a store's box. -/
structure StC (S G n : Nat) (s : SS) (w : World) : Prop where
  c0 : w.cell? ⟨S, 0, none⟩ = some (.slice (some ⟨G, 0, none⟩) n n)
  c1 : w.cell? ⟨S, 1, none⟩ = some (.int .i64 s.left)
  c2 : w.cell? ⟨S, 2, none⟩ = some (.int .i64 s.torn)
  c3 : w.cell? ⟨S, 3, none⟩ = some (.bool s.down)
  c4 : w.cell? ⟨S, 4, none⟩ = some (.int .i64 s.many)
  f1 : w.frozen? ⟨S, 1, none⟩ = false
  f2 : w.frozen? ⟨S, 2, none⟩ = false
  f3 : w.frozen? ⟨S, 3, none⟩ = false
  f4 : w.frozen? ⟨S, 4, none⟩ = false
section
variable {S G n : Nat} {s : SS} {w w' : World}
theorem StW.c (h : StW S G n s w) : StC S G n s w := ⟨h.bs.cell 0, h.bs.cell 1, h.bs.cell 2, h.bs.cell 3, h.bs.cell 4, h.bs.frozen 1, h.bs.frozen 2, h.bs.frozen 3, h.bs.frozen 4⟩
theorem StW.bytes (h : StW S G n s w) {i : Nat} (hi : i < n) : Lib.Bytes w G (i * 64) (s.bl[i]'(by rw [h.len]; exact hi)) := fun j hj => by
  rw [h.bg.cell]
  have := cells64_at h.all (i := i) (by rw [h.len]; exact hi) hj
  simpa using this
theorem StW.below (h : StW S G n s w) {B : Nat} (hb : Below B w w') (hs : S < B) (hg : G < B) : StW S G n s w' :=
  ⟨h.bs.below hb hs, h.bg.below hb hg, h.ne, h.len, h.all, h.lo, h.hi⟩
theorem StW.fr (h : StW S G n s w) {F : Nat → Prop} (hf : Fr F w w') (hs : ¬ F S) (hg : ¬ F G) : StW S G n s w' :=
  ⟨h.bs.fr hf hs, h.bg.fr hf hg, h.ne, h.len, h.all, h.lo, h.hi⟩
end

theorem info_block : (Try.prog.info? 80).map (fun i => (i.size, i.bytes)) = some (64, 64) := by kernel_rfl
theorem zero_block : (Try.prog.info? 80).map (fun i => i.zero.map (fun z => z.cells)) = some (some (List.replicate 64 (Value.int .u8 0)).toArray) := by kernel_rfl
theorem made_rep (m N : Nat) (v : Value) (hm : 0 < m) : madeCells (List.replicate m v).toArray N = (List.replicate N v).toArray := by
  apply Array.ext
  · simp [madeCells]
  · intro j h1 h2
    simp [madeCells, Nat.mod_lt _ hm]
theorem made_blocks (w : World) (n : Nat) (hn : n ≤ 4096) : (Instr.makeSlice 72 (.int .i64 (n : Int)) (.int .i64 (n : Int))).run Try.prog w = .ok (.slice (some ⟨w.heap.size, 0, none⟩) n n) (w.alloc (.cells (cells64 (SS.new n).bl).toArray 80)) := by
  obtain ⟨i, z, h1, h2, h3, h4, hz⟩ : ∃ i z, Try.prog.info? 80 = some i ∧ i.zero = some z ∧ i.size = 64 ∧ i.bytes = 64 ∧ z.cells = (List.replicate 64 (Value.int .u8 0)).toArray := by
    have h := info_block
    have h' := zero_block
    cases hi : Try.prog.info? 80 with
    | none => rw [hi] at h; cases h
    | some i =>
      rw [hi] at h h'
      simp only [Option.map_some, Option.some.injEq, Prod.mk.injEq] at h h'
      cases hz : i.zero with
      | none => rw [hz] at h'; cases h'
      | some z =>
        rw [hz] at h'
        simp only [Option.map_some, Option.some.injEq] at h'
        exact ⟨i, z, rfl, hz, h.1, h.2, h'⟩
  have := run_makeSlice (P := Try.prog) w _ _ i z Try.underlying72 h1 h2 .i64 .i64 (n : Int) (n : Int) (by omega) (by omega) (by rw [h3]; simp; omega) (by rw [h4]; omega) (by omega)
  rw [this, h3]
  simp only [Int.toNat_natCast]
  have e : madeCells z.cells (n * 64) = (cells64 (SS.new n).bl).toArray := by
    rw [hz, made_rep 64 _ _ (by omega), SS.new, zero_cells]
  rw [e]

def NewStore (w : World) (n : Nat) (e : Ending) (w' : World) : Prop := ∃ S G, e = .returned (.tuple #[.pointer (some ⟨S, 0, none⟩), .int .i64 0]) ∧ w.heap.size ≤ S ∧ w.heap.size ≤ G ∧ StW S G n (SS.new n) w' ∧ Below w.heap.size w w'

set_option maxHeartbeats 1000000 in
set_option maxRecDepth 100000 in
theorem new_ok (n : Nat) (w : World) (h3 : 3 ≤ n) (hn : n ≤ 4096) : Calls Try.prog 14 #[.int .i64 (n : Int)] w (NewStore w n) := by
  have hmk := made_blocks w n hn
  go_enter Try.func14, Try.ntmps14
  go_wp2_with fail
  go_ret2
  refine ⟨w.heap.size + 1, w.heap.size, rfl, by omega, Nat.le_refl _, ⟨?_, ?_, by omega, ?_, All64.new n, h3, hn⟩, ?_⟩
  · have := Blk.new (w.alloc (.cells (cells64 (SS.new n).bl).toArray 80)) 74 #[.slice (some ⟨w.heap.size, 0, none⟩) n n, .int .i64 (-1), .int .i64 0, .bool false, .int .i64 0]
    have e : (w.alloc (.cells (cells64 (SS.new n).bl).toArray 80)).heap.size = w.heap.size + 1 := by simp
    rw [e] at this
    exact this
  · exact (Blk.new w _ _).alloc _
  · simp [SS.new]
  · exact ((Below.refl _ _).alloc (Nat.le_refl _) _).alloc (by simp) _
set_option maxHeartbeats 1000000 in
set_option maxRecDepth 100000 in
theorem new_bad (n : Int) (w : World) (h : n < 3 ∨ 4096 < n) : Calls Try.prog 14 #[.int .i64 n] w fun e w' => e = .returned (.tuple #[.pointer none, .int .i64 1]) ∧ w = w' := by
  by_cases c : n < 3
  · clear h
    go_enter Try.func14, Try.ntmps14
    go_wp2_with fail
    go_ret2
    exact ⟨rfl, rfl⟩
  · have d : 4096 < n := by omega
    clear h
    go_enter Try.func14, Try.ntmps14
    go_wp2_with fail
    go_ret2
    exact ⟨rfl, rfl⟩
theorem has_yes (S G n i : Nat) (s : SS) (w : World) (h : StW S G n s w) (hi : i < n) : Calls Try.prog 50 #[.pointer (some ⟨S, 0, none⟩), .int .i64 (i : Int)] w fun e w' => e = .returned (.bool true) ∧ w = w' := by
  have hn := h.hi
  have c0 := h.c.c0
  clear h
  go_enter Try.func50, Try.ntmps50
  go_wp2_with fail
  go_ret
  exact ⟨rfl, rfl⟩
theorem has_no (S G n : Nat) (i : Int) (s : SS) (w : World) (h : StW S G n s w) (hi : i < 0 ∨ (n : Int) ≤ i) : Calls Try.prog 50 #[.pointer (some ⟨S, 0, none⟩), .int .i64 i] w fun e w' => e = .returned (.bool false) ∧ w = w' := by
  have hn := h.hi
  have c0 := h.c.c0
  clear h
  by_cases c : i < 0
  · clear hi
    go_enter Try.func50, Try.ntmps50
    go_wp2_with fail
    go_ret
    exact ⟨rfl, rfl⟩
  · have d : decide (i < (n : Int)) = false := by simp; omega
    have d0 : 0 ≤ i := by omega
    clear hi
    go_enter Try.func50, Try.ntmps50
    go_wp2_with fail
    go_ret
    exact ⟨rfl, rfl⟩

def ReadT (s : SS) (i : Int) : Value := if i < 0 ∨ (s.bl.length : Int) ≤ i then .tuple #[.string ByteArray.empty, .int .i64 1] else .tuple #[.string (s.bl.getD i.toNat ByteArray.empty), .int .i64 0]
theorem und_string : Try.prog.underlying 9 = some .string := Try.underlying9
set_option maxHeartbeats 1000000 in
set_option maxRecDepth 100000 in
theorem read_ok (S G n i : Nat) (s : SS) (w : World) (h : StW S G n s w) (hi : i < n) (b : ByteArray) (hb : s.bl[i]? = some b) : Calls Try.prog 22 #[.pointer (some ⟨S, 0, none⟩), .int .i64 (i : Int)] w fun e w' => e = .returned (.tuple #[.string b, .int .i64 0]) ∧ w = w' := by
  have hn := h.hi
  have c0 := h.c.c0
  have hb' : s.bl[i]'(by rw [h.len]; exact hi) = b := by rw [List.getElem?_eq_getElem (by rw [h.len]; exact hi)] at hb; simpa using hb
  have hB := h.bytes hi
  rw [hb'] at hB
  have hs : b.size = 64 := by rw [← hb']; exact h.all _ (List.getElem_mem _)
  have hcv := Lib.run_convert_whole (P := Try.prog) w 78 5 9 Try.underlying78 Try.underlying5 Try.underlying9 G (i * 64) b hB 64
  rw [hs] at hcv
  have HS := Lib.hid h
  have g0 : (0 : Int) ≤ (i : Int) := Int.natCast_nonneg _
  have g1 : (i : Int) < (n : Int) := by omega
  clear h hb hb' hB hs
  go_enter Try.func22, Try.ntmps22
  go_wp2_with fail
  refine (has_yes S G n i s _ HS.out hi).mono ?_
  rintro e w1 ⟨rfl, rfl⟩
  go_wp2_with fail
  go_ret2
  exact ⟨rfl, rfl⟩
theorem read_bad (S G n : Nat) (i : Int) (s : SS) (w : World) (h : StW S G n s w) (hi : i < 0 ∨ (n : Int) ≤ i) : Calls Try.prog 22 #[.pointer (some ⟨S, 0, none⟩), .int .i64 i] w fun e w' => e = .returned (.tuple #[.string ByteArray.empty, .int .i64 1]) ∧ w = w' := by
  have HS := Lib.hid h
  have HI := Lib.hid hi
  clear h hi
  go_enter Try.func22, Try.ntmps22
  go_wp2_with fail
  refine (has_no S G n i s _ HS.out HI.out).mono ?_
  rintro e w1 ⟨rfl, rfl⟩
  go_wp2_with fail
  go_ret2
  exact ⟨rfl, rfl⟩
/-- The two blocks of a store. -/
def Two (S G : Nat) (k : Nat) : Prop := k = S ∨ k = G
def RetS (S G n : Nat) (s : SS) (w : World) (x : Int) (e : Ending) (w' : World) : Prop := e = .returned (.int .i64 x) ∧ StW S G n s w' ∧ Fr (Two S G) w w'
theorem write_arg (S G n : Nat) (i : Int) (b : ByteArray) (s : SS) (w : World) (h : StW S G n s w) (hi : i < 0 ∨ (n : Int) ≤ i ∨ b.size ≠ 64) :
    Calls Try.prog 18 #[.pointer (some ⟨S, 0, none⟩), .int .i64 i, .string b] w (RetS S G n s w 1) := by
  have HS := Lib.hid h
  by_cases c : i < 0 ∨ (n : Int) ≤ i
  · have HI := Lib.hid c
    clear h hi c
    go_enter Try.func18, Try.ntmps18
    go_wp2_with fail
    refine (has_no S G n i s _ HS.out HI.out).mono ?_
    rintro e w1 ⟨rfl, rfl⟩
    go_wp2_with fail
    go_ret
    exact ⟨rfl, HS.out, Fr.refl _ _⟩
  · obtain ⟨j, rfl⟩ := Int.eq_ofNat_of_zero_le (show 0 ≤ i by omega)
    have hj : j < n := by omega
    have hb : ((b.size : Int) == 64) = false := by simp; omega
    have hb2 : ((b.size : Int) != 64) = true := by simp; omega
    clear h hi c
    go_enter Try.func18, Try.ntmps18
    go_wp2_with fail
    refine (has_yes S G n j s _ HS.out hj).mono ?_
    rintro e w1 ⟨rfl, rfl⟩
    go_wp2_with fail
    go_ret
    exact ⟨rfl, HS.out, Fr.refl _ _⟩
theorem write_down (S G n : Nat) (i : Nat) (b : ByteArray) (s : SS) (w : World) (h : StW S G n s w) (hj : i < n) (hb : b.size = 64) (hd : s.down = true) :
    Calls Try.prog 18 #[.pointer (some ⟨S, 0, none⟩), .int .i64 (i : Int), .string b] w (RetS S G n s w 9) := by
  have HS := Lib.hid h
  have c3 := h.c.c3
  rw [hd] at c3
  have hb1 : ((b.size : Int) == 64) = true := by simp [hb]
  have hb2 : ((b.size : Int) != 64) = false := by simp [hb]
  clear h hd hb
  go_enter Try.func18, Try.ntmps18
  go_wp2_with fail
  refine (has_yes S G n i s _ HS.out hj).mono ?_
  rintro e w1 ⟨rfl, rfl⟩
  go_wp2_with fail
  go_ret
  exact ⟨rfl, HS.out, Fr.refl _ _⟩

/-- A store behind a copy into a block. -/
theorem StW.copied {S G n : Nat} {s : SS} {w : World} (h : StW S G n s w) {i : Nat} (hi : i < n) (b y : ByteArray) (hb : b.size ≤ 64) (hy64 : y.size = 64) (hy : Lib.byteCells y.data.toList = Lib.byteCells b.data.toList ++ (Lib.byteCells (s.bl[i]'(by rw [h.len]; exact hi)).data.toList).drop b.size) :
    (Builtin.copy_ #[78, 9] 3 #[.slice (some ⟨G, i * 64, none⟩) 64 64, .string b]).run Try.prog w = .ok (goInt b.size) (w.setRow G (cells64 (s.bl.set i y)).toArray) ∧ StW S G n { s with bl := s.bl.set i y } (w.setRow G (cells64 (s.bl.set i y)).toArray) ∧ Fr (Two S G) w (w.setRow G (cells64 (s.bl.set i y)).toArray) := by
  have hsp := cells64_splice h.all (show i < s.bl.length by rw [h.len]; exact hi) b y hb hy
  have hrun := Lib.run_copy_row_string (P := Try.prog) w 78 9 3 5 G (i * 64) 64 64 b (cells64 s.bl).toArray 80 Try.underlying78 (by kernel_rfl) h.bg hb (by
    simp only [List.size_toArray]; rw [cells64_len h.all, h.len]; omega)
  simp only [] at hrun
  rw [hsp] at hrun
  refine ⟨hrun, ⟨?_, setRow_heap w G _ _ _ _ h.bg, h.ne, by simp [h.len], h.all.set hy64 i, h.lo, h.hi⟩, ?_⟩
  · exact (setRow_other w G S _ h.ne).trans h.bs
  · exact ⟨rfl, rfl, rfl, by simp, fun k hk hn => setRow_other w G k _ (fun e => hn (.inr e))⟩
end Go.Proofs.Ytdapcahphaldjaa.Store
