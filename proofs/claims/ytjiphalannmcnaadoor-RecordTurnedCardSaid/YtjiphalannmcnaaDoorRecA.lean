/- The walks of record's Check, Blocks and Head. -/
import Derived.Test.YtjiphalannmcnaaDoorProg
import Derived.Test.YtjiphalannmcnaaDoorMem2
import Derived.Lib.SlBuf
import Derived.Lib.SlBytesRow
import Derived.Deep.QuietTactic
import Derived.Test.YtjiphalannmcnaaDoorRecMath
import Derived.Lib.UnsafeStr
import Derived.Laws.BitsAllLaws
namespace Go.Proofs.YtjiphalannmcnaaDoor.REC
open Go.RowKit
set_option linter.unusedVariables false
set_option linter.unusedSimpArgs false

theorem xor32 (a b : B32) : bits .xor .u32 (a.toNat : Int) (b.toNat : Int) = ((a ^^^ b).toNat : Int) := by rw [u32_xor_nat _ _ a.isLt b.isLt, BitVec.toNat_xor]
theorem and15 (a : B32) : bits .and .u32 (a.toNat : Int) 15 = ((a &&& 15#32).toNat : Int) := by
  have := u32_and_nat a.toNat 15 a.isLt (by decide)
  rw [show ((15 : Nat) : Int) = 15 from rfl] at this
  rw [this, BitVec.toNat_and]
  rfl
theorem rshr4 (a : B32) : (a.toNat : Int) / 16 = ((a >>> 4).toNat : Int) := by
  rw [BitVec.toNat_ushiftRight, Nat.shiftRight_eq_div_pow]
  omega
theorem xorS (a b : B32) : bits .xor .u32 ((a.toNat : Int) / 16) (b.toNat : Int) = (((a >>> 4) ^^^ b).toNat : Int) := (congrArg (fun z : Int => bits .xor .u32 z (b.toNat : Int)) (rshr4 a)).trans (xor32 _ _)
theorem xorR (a b : B32) : bits .xor .u32 (a.toNat : Int) ((b.toNat : Int) / 16) = ((a ^^^ (b >>> 4)).toNat : Int) := (congrArg (fun z : Int => bits .xor .u32 (a.toNat : Int) z) (rshr4 b)).trans (xor32 _ _)
theorem byt32 (u : UInt8) : (u.toNat : Int) % 4294967296 = ((byt u).toNat : Int) := by
  unfold byt
  rw [BitVec.toNat_ofNat]
  have := u.toNat_lt
  omega
theorem take_byte {s : ByteArray} {k : Nat} (h : k < s.size) : s.data.toList.take (k + 1) = s.data.toList.take k ++ [s[k]] := by
  rw [List.take_succ_eq_append_getElem (by simpa using h)]
  rfl
def tabCells : Array Value := (tab.map (fun x => Value.int .u32 (x.toNat : Int))).toArray
theorem tab_cell {w : World} {Q t i : Nat} (h : Blk w Q t tabCells) (hi : i < 16) : w.cell? ⟨Q, i, none⟩ = some (.int .u32 ((tabAt i).toNat : Int)) := by
  rw [h.cell i]
  unfold tabCells tabAt
  have : i < tab.length := hi
  simp [List.getD_eq_getElem?_getD, this]
set_option maxHeartbeats 1000000 in
set_option maxRecDepth 100000 in
theorem check_any (s : ByteArray) (w : World) (hs : s.size ≤ 1000000) :
    Calls Tryd.prog 14 #[.string s] w fun e w' => e = .returned (.int .u32 ((chk s.data.toList).toNat : Int)) ∧ Below w.heap.size w w' := by
  have HS := Lib.hid hs
  have HQ := Lib.hid (show Blk (w.alloc (.cells tabCells 44)) w.heap.size 44 tabCells from Blk.new w _ _)
  go_enter Tryd.func14, Tryd.ntmps14
  go_wp2_with fail
  obtain ⟨w1, hw1⟩ : ∃ w1, w.alloc (.cells tabCells 44) = w1 := ⟨_, rfl⟩
  have hbe := (Below.refl w.heap.size w).alloc (Nat.le_refl _) (.cells tabCells 44)
  rw [hw1] at HQ hbe
  have hw2 : w.alloc (.cells #[.int .u32 0, .int .u32 498536548, .int .u32 997073096, .int .u32 651767980, .int .u32 1994146192, .int .u32 1802195444, .int .u32 1303535960, .int .u32 1342533948, .int .u32 3988292384, .int .u32 4027552580, .int .u32 3604390888, .int .u32 3412177804, .int .u32 2607071920, .int .u32 2262029012, .int .u32 2685067896, .int .u32 3183342108] 44) = w1 := hw1
  rw [hw2]
  have HB := Lib.hid hbe
  clear hw1 hw2 hbe
  go_loopw [4, 10] (fun vc vk wr => ∃ k : Nat, vc = .int .u32 ((run 4294967295#32 (s.data.toList.take k)).toNat : Int) ∧ vk = .int .i64 (k : Int) ∧ k ≤ s.size ∧ wr = w1) (fun _ vk _ => s.size - (intOf vk).toNat)
  case atStart => exact ⟨0, rfl, rfl, by omega, by first | rfl | trivial⟩
  case round =>
    obtain ⟨k, rfl, rfl, hk, rfl⟩ := hrel
    by_cases hlt : k < s.size
    · have k0 : (0 : Int) ≤ (k : Int) := Int.natCast_nonneg _
      have k1 : (k : Int) < (s.size : Int) := by omega
      have hts := take_byte hlt
      have HT := Lib.hid (show run 4294967295#32 (s.data.toList.take (k + 1)) = step (run 4294967295#32 (s.data.toList.take k)) s[k] by rw [hts, run_snoc])
      generalize run 4294967295#32 (s.data.toList.take k) = C at *
      have e1 := byt32 s[k]
      have HX := Lib.hid (show step C s[k] = nib (nib C (byt s[k])) (byt s[k] >>> 4) from rfl)
      generalize byt s[k] = X at *
      have e2 := xor32 C X
      have e3 := and15 (C ^^^ X)
      have h1 := low4 (C ^^^ X)
      have e5 := xorS C (tabAt ((C ^^^ X) &&& 15#32).toNat)
      rw [show (C >>> 4) ^^^ tabAt ((C ^^^ X) &&& 15#32).toNat = nib C X from rfl] at e5
      have c1 := tab_cell HQ.out h1
      generalize ((C ^^^ X) &&& 15#32).toNat = i1 at *
      generalize nib C X = D at *
      have e7 := xorR D X
      generalize X >>> 4 = Y at *
      have e8 := and15 (D ^^^ Y)
      have h2 := low4 (D ^^^ Y)
      have e10 := xorS D (tabAt ((D ^^^ Y) &&& 15#32).toNat)
      rw [show (D >>> 4) ^^^ tabAt ((D ^^^ Y) &&& 15#32).toNat = nib D Y from rfl] at e10
      have c2 := tab_cell HQ.out h2
      generalize ((D ^^^ Y) &&& 15#32).toNat = i2 at *
      generalize nib D Y = G at *
      have b1 : (0 : Int) ≤ (i1 : Int) := Int.natCast_nonneg _
      have b2 : (0 : Int) ≤ (i2 : Int) := Int.natCast_nonneg _
      have b3 : (i1 : Int) < 16 := by omega
      have b4 : (i2 : Int) < 16 := by omega
      have HG := Lib.hid (show (run 4294967295#32 (s.data.toList.take (k + 1))).toNat = G.toNat by rw [HT.out, HX.out])
      clear hts HT HX
      generalize (C ^^^ X).toNat = n2 at *
      generalize (tabAt i1).toNat = n5 at *
      generalize (D ^^^ Y).toNat = n6 at *
      generalize (tabAt i2).toNat = n8 at *
      generalize C.toNat = nC at *
      generalize X.toNat = nX at *
      generalize D.toNat = nD at *
      generalize G.toNat = nG at *
      go_wp2_with fail
      go_roundw
      case rel => exact ⟨k + 1, by rw [HG.out], by go_num, by omega, by first | rfl | trivial⟩
      case measure => simp only [intOf]; omega
    · obtain rfl : k = s.size := by omega
      rw [List.take_of_length_le (by simp)]
      have e1 := xor32 4294967295#32 (run 4294967295#32 s.data.toList)
      have HE := Lib.hid (show ((4294967295#32 : B32) ^^^ run 4294967295#32 s.data.toList).toNat = (chk s.data.toList).toNat by
        unfold chk
        rw [← BitVec.allOnes_xor]
        rfl)
      rw [HE.out, show (((4294967295#32 : B32).toNat : Nat) : Int) = IntKind.u32.max by decide] at e1
      generalize (run 4294967295#32 s.data.toList).toNat = n1 at *
      obtain ⟨n2, hn2⟩ : ∃ n2, (chk s.data.toList).toNat = n2 := ⟨_, rfl⟩
      have HN2 := Lib.hid hn2
      rw [hn2] at e1
      clear hn2
      go_wp2_with fail
      go_ret
      exact ⟨by rw [HN2.out]; rfl, HB.out⟩
end Go.Proofs.YtjiphalannmcnaaDoor.REC
