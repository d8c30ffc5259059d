/- The store, plain: blocks of 64 bytes, a fuse, power, how many writes were fine. -/
import Derived.Lib.UnsafeStr
import Derived.Lib.Strings
namespace Go.Proofs.Ytdapcahphaldjaa.Store
set_option linter.unusedVariables false
set_option linter.unusedSimpArgs false

/-- The bytes of blocks, as cells. -/
def cells64 (bl : List ByteArray) : List Value := bl.flatMap fun b => Lib.byteCells b.data.toList
def All64 (bl : List ByteArray) : Prop := ∀ b ∈ bl, b.size = 64
theorem bc_len (b : ByteArray) : (Lib.byteCells b.data.toList).length = b.size := by rw [Lib.byteCells_length, Lib.size_eq]
theorem cells64_app (a b : List ByteArray) : cells64 (a ++ b) = cells64 a ++ cells64 b := by simp [cells64]
theorem cells64_cons (b : ByteArray) (bl : List ByteArray) : cells64 (b :: bl) = Lib.byteCells b.data.toList ++ cells64 bl := by simp [cells64]
theorem cells64_len {bl : List ByteArray} (h : All64 bl) : (cells64 bl).length = bl.length * 64 := by
  induction bl with
  | nil => rfl
  | cons b bl ih =>
    rw [cells64_cons, List.length_append, bc_len, h b (by simp), ih (fun x hx => h x (by simp [hx])), List.length_cons]
    omega
theorem parts {bl : List ByteArray} {i : Nat} (hi : i < bl.length) : ∃ A C, bl = A ++ bl[i] :: C ∧ A.length = i := by
  refine ⟨bl.take i, bl.drop (i + 1), ?_, by rw [List.length_take]; omega⟩
  rw [← List.drop_eq_getElem_cons hi, List.take_append_drop]
theorem All64.left {a b : List ByteArray} (h : All64 (a ++ b)) : All64 a := fun x hx => h x (by simp [hx])
/-- A part of a block is written over. -/
theorem cells64_splice {bl : List ByteArray} (h : All64 bl) {i : Nat} (hi : i < bl.length) (s y : ByteArray) (hs : s.size ≤ 64) (hy : Lib.byteCells y.data.toList = Lib.byteCells s.data.toList ++ (Lib.byteCells bl[i].data.toList).drop s.size) :
    (cells64 bl).take (i * 64) ++ Lib.byteCells s.data.toList ++ (cells64 bl).drop (i * 64 + s.size) = cells64 (bl.set i y) := by
  obtain ⟨A, C, e, hA⟩ := parts hi
  have hx : bl[i].size = 64 := h _ (List.getElem_mem hi)
  generalize bl[i] = x at *
  subst e
  have hl : (cells64 A).length = i * 64 := by rw [cells64_len h.left, hA]
  have hset : (A ++ x :: C).set i y = A ++ y :: C := by rw [List.set_append_right _ _ (by omega), hA]; simp
  rw [hset, cells64_app, cells64_app, cells64_cons, cells64_cons, hy]
  rw [List.take_append_of_le_length (by omega), List.take_of_length_le (by omega)]
  rw [List.drop_append, List.drop_eq_nil_of_le (by omega), hl, show i * 64 + s.size - i * 64 = s.size by omega, List.drop_append_of_le_length (by rw [bc_len, hx]; exact hs)]
  simp
theorem cells64_at {bl : List ByteArray} (h : All64 bl) {i : Nat} (hi : i < bl.length) {j : Nat} (hj : j < bl[i].size) : (cells64 bl)[i * 64 + j]? = some (.int .u8 (bl[i][j].toNat : Int)) := by
  obtain ⟨A, C, e, hA⟩ := parts hi
  have hx : bl[i].size = 64 := h _ (List.getElem_mem hi)
  generalize bl[i] = x at *
  subst e
  have hl : (cells64 A).length = i * 64 := by rw [cells64_len h.left, hA]
  rw [cells64_app, cells64_cons, List.getElem?_append_right (by omega), hl, show i * 64 + j - i * 64 = j by omega, List.getElem?_append_left (by rw [bc_len]; exact hj)]
  simp only [Lib.byteCells, List.getElem?_map]
  rw [show x.data.toList[j]? = some x[j] by rw [Array.getElem?_toList, Array.getElem?_eq_getElem hj]; rfl]
  rfl

/-- How much of a torn write is written. -/
def cut (t : Int) : Nat := (min (max t 0) 64).toNat
theorem cut_le (t : Int) : cut t ≤ 64 := by unfold cut; omega
/-- The beginning of b with the end of what was. -/
def torn (b old : ByteArray) (n : Nat) : ByteArray := b.extract 0 n ++ old.extract n 64
theorem ext_list (s : ByteArray) (a b : Nat) : (s.extract a b).data.toList = (s.data.toList.drop a).take (b - a) := Lib.extract_data s a b
theorem torn_list {b old : ByteArray} {n : Nat} : (torn b old n).data.toList = b.data.toList.take n ++ (old.data.toList.drop n).take (64 - n) := by
  unfold torn
  rw [ByteArray.data_append, Array.toList_append, ext_list, ext_list]
  simp
theorem torn_size {b old : ByteArray} {n : Nat} (hb : b.size = 64) (ho : old.size = 64) (hn : n ≤ 64) : (torn b old n).size = 64 := by
  rw [Lib.size_eq, torn_list, List.length_append, List.length_take, List.length_take, List.length_drop, ← Lib.size_eq, ← Lib.size_eq, hb, ho]
  omega
theorem ext_size {b : ByteArray} {n : Nat} (hb : b.size = 64) (hn : n ≤ 64) : (b.extract 0 n).size = n := by
  rw [Lib.size_eq, ext_list, List.length_take, List.length_drop, ← Lib.size_eq, hb]; omega
theorem torn_cells {b old : ByteArray} {n : Nat} (hb : b.size = 64) (ho : old.size = 64) (hn : n ≤ 64) :
    Lib.byteCells (torn b old n).data.toList = Lib.byteCells (b.extract 0 n).data.toList ++ (Lib.byteCells old.data.toList).drop (b.extract 0 n).size := by
  rw [torn_list, Lib.byteCells_append, ext_list, ext_size hb hn, List.drop_zero, Nat.sub_zero]
  congr 1
  simp only [Lib.byteCells, ← List.map_drop]
  rw [List.take_of_length_le (by rw [List.length_drop, ← Lib.size_eq, ho]; omega)]
theorem whole_cells {b old : ByteArray} (hb : b.size = 64) (ho : old.size = 64) : Lib.byteCells b.data.toList = Lib.byteCells b.data.toList ++ (Lib.byteCells old.data.toList).drop b.size := by
  rw [List.drop_eq_nil_of_le (by rw [bc_len]; omega), List.append_nil]

structure SS where
  bl : List ByteArray
  left : Int
  torn : Int
  down : Bool
  many : Int
def zeros : ByteArray := ⟨(List.replicate 64 (0 : UInt8)).toArray⟩
theorem zeros_size : zeros.size = 64 := by decide +kernel
def SS.new (n : Nat) : SS := ⟨List.replicate n zeros, -1, 0, false, 0⟩
def SS.write (s : SS) (i : Int) (b : ByteArray) : SS × Int :=
  if i < 0 ∨ (s.bl.length : Int) ≤ i ∨ b.size ≠ 64 then (s, 1)
  else if s.down = true then (s, 9)
  else if s.left = 0 then ({ s with bl := s.bl.set i.toNat (Store.torn b (s.bl.getD i.toNat ByteArray.empty) (cut s.torn)), down := true }, 9)
  else ({ s with bl := s.bl.set i.toNat b, left := if 0 < s.left then s.left - 1 else s.left, many := s.many + 1 }, 0)
def SS.fuse (s : SS) (n t : Int) : SS := { s with left := max n (-1), torn := t }
def SS.restart (s : SS) : SS := { s with left := -1, down := false }
theorem All64.set {bl : List ByteArray} (h : All64 bl) {b : ByteArray} (hb : b.size = 64) (i : Nat) : All64 (bl.set i b) := fun x hx => by
  rcases List.mem_or_eq_of_mem_set hx with h1 | h1
  · exact h x h1
  · rw [h1]; exact hb
theorem All64.new (n : Nat) : All64 (SS.new n).bl := fun x hx => by
  have : x = zeros := List.eq_of_mem_replicate hx
  rw [this]; exact zeros_size
theorem SS.write_len (s : SS) (i : Int) (b : ByteArray) : (s.write i b).1.bl.length = s.bl.length := by
  unfold SS.write
  split
  · rfl
  · split
    · rfl
    · split <;> simp
theorem SS.write_all {s : SS} (h : All64 s.bl) (i : Int) (b : ByteArray) : All64 (s.write i b).1.bl := by
  unfold SS.write
  split
  · exact h
  · rename_i hc
    split
    · exact h
    · split
      · refine h.set ?_ _
        refine torn_size (by omega) ?_ (cut_le _)
        have hi : i.toNat < s.bl.length := by omega
        rw [List.getD_eq_getElem?_getD, List.getElem?_eq_getElem hi]
        exact h _ (List.getElem_mem hi)
      · exact h.set (by omega) _
theorem zero_cells (n : Nat) : cells64 (List.replicate n zeros) = List.replicate (n * 64) (.int .u8 0) := by
  induction n with
  | zero => simp [cells64]
  | succ n ih =>
    rw [List.replicate_succ, cells64_cons, ih, show (n + 1) * 64 = 64 + n * 64 by omega, ← List.replicate_append_replicate]
    congr 1
end Go.Proofs.Ytdapcahphaldjaa.Store
