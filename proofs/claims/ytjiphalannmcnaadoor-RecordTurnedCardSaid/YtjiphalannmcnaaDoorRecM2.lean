/- A record's blocks, as plain data. -/
import Derived.Test.YtjiphalannmcnaaDoorRecB
import Derived.Test.YtjiphalannmcnaaDoorAppZ
import Derived.OwnWalk
import Derived.Deep.DeepCutAuto
namespace Go.Proofs.YtjiphalannmcnaaDoor.REC
open Go.RowKit Go.Lib
set_option linter.unusedVariables false
set_option linter.unusedSimpArgs false

def hb (v : Nat) : UInt8 := UInt8.ofNat v
theorem hb_nat (v : Nat) : (hb v).toNat = v % 256 := by simp [hb]
def head7 (m : Bool) (l : List UInt8) : List UInt8 := [if m = true then 1 else 0, hb (l.length / 256), hb l.length, hb ((chk l).toNat / 16777216), hb ((chk l).toNat / 65536), hb ((chk l).toNat / 256), hb (chk l).toNat]
def many (n : Nat) : Nat := (n + 70) / 64
def allB (m : Bool) (l : List UInt8) : List UInt8 := head7 m l ++ l ++ List.replicate (many l.length * 64 - (7 + l.length)) 0
theorem many_room (n : Nat) : 7 + n ≤ many n * 64 ∧ 1 ≤ many n := by unfold many; omega
theorem allB_len (m : Bool) (l : List UInt8) : (allB m l).length = many l.length * 64 := by
  have := many_room l.length
  unfold allB head7
  simp
  omega
def blkAt (a : List UInt8) (k : Nat) : ByteArray := ⟨((a.drop (k * 64)).take 64).toArray⟩
def layL (m : Bool) (l : List UInt8) : List ByteArray := (List.range (many l.length)).map (blkAt (allB m l))
theorem layL_len (m : Bool) (l : List UInt8) : (layL m l).length = many l.length := by simp [layL]
def bcs (l : List UInt8) : List Value := l.map (fun b => .int .u8 (b.toNat : Int))
def strsR (l : List ByteArray) : List Value := l.map .string
theorem bcs_str (s : ByteArray) : strCells s = bcs s.data.toList := rfl
theorem bcs_app (a b : List UInt8) : bcs (a ++ b) = bcs a ++ bcs b := by simp [bcs]
theorem bcs_len (a : List UInt8) : (bcs a).length = a.length := by simp [bcs]
theorem bcs_zeros (k : Nat) : bcs (List.replicate k 0) = List.replicate k (.int .u8 0) := by simp [bcs]
theorem alloc1 (w : World) (o : Obj) : Below w.heap.size w (w.alloc o) := (Below.refl _ _).alloc (Nat.le_refl _) _
theorem own_new {w : World} {base e : Nat} {l : List Value} {cs : Array Value} {n : Nat} (hb : base ≤ w.heap.size) (hcs : cs = l.toArray) (hn : l.length = n) (hm : n ≤ maxLen) : (w.alloc (.cells cs e)).ownsRow base e 1 (.slice (some ⟨w.heap.size, 0, none⟩) n n) n l := by
  subst hcs
  refine ⟨by omega, .inr ⟨w.heap.size, n, l.toArray, rfl, hb, heap_alloc_new _ _, Nat.le_refl _, hm, by simp; omega, by simp; rw [← hn]; exact List.take_length⟩⟩
theorem own_put1 {w : World} {base e g n cap : Nat} {xs : List Value} (h : w.ownsRow base e 1 (.slice (some ⟨g, 0, none⟩) n cap) n xs) (j : Nat) (u : Value) :
    (w.setCell ⟨g, j, none⟩ u).ownsRow base e 1 (.slice (some ⟨g, 0, none⟩) n cap) n (xs.set j u) := by
  obtain ⟨h1, h2⟩ := h
  refine ⟨by simpa using h1, ?_⟩
  rcases h2 with ⟨h2, _⟩ | ⟨g', cap', cur, hv, hg, hh, hn, hm, hs, ht⟩
  · cases h2
  · injection hv with e1 _ e3
    injection e1 with e1
    injection e1 with e1
    subst e1; subst e3
    refine .inr ⟨g, cap, cur.setIfInBounds j u, rfl, hg, (show Blk w g e cur from hh).set_ j u, hn, hm, by simpa using hs, ?_⟩
    rw [Array.toList_setIfInBounds, List.take_set, ht]
theorem own_weakR {base base' e size n : Nat} {u : Value} {ys : List Value} {W : World} (h : W.ownsRow base e size u n ys) (hb : base' ≤ base) : W.ownsRow base' e size u n ys :=
  ⟨h.1, h.2.imp id fun ⟨g, cap, cur, e1, hg, r⟩ => ⟨g, cap, cur, e1, Nat.le_trans hb hg, r⟩⟩
theorem own_sl {w : World} {base e size n : Nat} {v : Value} {xs : List Value} (h : w.ownsRow base e size v n xs) : ∃ A c, v = .slice A n c ∧ n ≤ c := by
  rcases h.2 with ⟨rfl, rfl⟩ | ⟨g, cap, cur, rfl, _, _, hn, _⟩
  · exact ⟨none, 0, rfl, Nat.le_refl _⟩
  · exact ⟨_, cap, rfl, hn⟩
theorem wpList_own_zeros {P : Program} {w : World} {ops : Array Oper} {rest : List Oper} {o : Oper} {a : Act} {Q : Exit → Act → World → Prop} (hgd : o.guard = none) (sl x : Operand) (t u us : TypeId)
    (ho : o.op = .call { callee := .builtin .append, args := #[sl, x], argTypes := #[t, u] })
    (base : Nat) (e : TypeId) (i : TypeInfo) (ht : P.underlying t = some (.slice e)) (hu : P.underlying u = some (.int .i64)) (hus : P.underlying us = some .string) (hi : P.info? e = some i) (hz : i.zero = some (.int .u8 0)) (hsize : i.size = 1) (hby : i.bytes = 1)
    (b : Option Addr) (n cap k : Nat) (xs : List Value) (hs : a.eval sl = .slice b n cap) (hown : w.ownsRow base e 1 (.slice b n cap) n xs) (hx : a.eval x = .int .i64 (k : Int)) (hn : n + k ≤ 140737488355328) (hbase : base ≤ w.heap.size)
    (h : ∀ v' w', w'.ownsRow base e 1 v' (n + k) (xs ++ List.replicate k (.int .u8 0)) → w.grownBy w' (Value.slice b n cap).ownBlock → wpList P ops Q rest (a.put o.dst v') w') : wpList P ops Q (o :: rest) a w := by
  refine wpList_plain hgd fun K hK => ?_
  obtain ⟨v', w', hr, h2, h3⟩ := run_own_zeros (P := P) w base t u us o.type e i ht hu hus hi hz hsize hby b n cap k xs hown hn hbase
  unfold Oper.wp execOp
  simp only [ho, resolve, invoke, builtin, Sem.run_bind, Sem.run_pure, Result.andThen_ok, List.map_toArray, List.map_cons, List.map_nil, hs, hx, hr]
  exact hK _ _ (h v' w' h2 h3)
/-- What lies first in a record. -/
theorem head_cells {l : List UInt8} {n C : Nat} (hn : l.length = n) (hC : (chk l).toNat = C) (h3 : n ≤ 3000) :
    #[Value.int .u8 0, .int .u8 ((n : Int) / 256), .int .u8 ((n : Int) % 256), .int .u8 ((C : Int) / 16777216), .int .u8 ((C : Int) / 65536 % 256), .int .u8 ((C : Int) / 256 % 256), .int .u8 ((C : Int) % 256)] = (bcs (head7 false l)).toArray := by
  have hl : C < 4294967296 := by rw [← hC]; exact (chk l).isLt
  unfold head7 bcs
  rw [hn, hC]
  simp only [List.map_cons, List.map_nil, hb_nat]
  have e1 : ((n / 256 % 256 : Nat) : Int) = (n : Int) / 256 := by omega
  have e2 : ((n % 256 : Nat) : Int) = (n : Int) % 256 := by omega
  have e3 : ((C / 16777216 % 256 : Nat) : Int) = (C : Int) / 16777216 := by omega
  have e4 : ((C / 65536 % 256 : Nat) : Int) = (C : Int) / 65536 % 256 := by omega
  have e5 : ((C / 256 % 256 : Nat) : Int) = (C : Int) / 256 % 256 := by omega
  have e6 : ((C % 256 : Nat) : Int) = (C : Int) % 256 := by omega
  rw [e1, e2, e3, e4, e5, e6]
  rfl
theorem head_mark (l : List UInt8) : (bcs (head7 false l)).set 0 (.int .u8 1) = bcs (head7 true l) := by simp [bcs, head7]
theorem all_cells (m : Bool) (s : ByteArray) {K N2 Z : Nat} (hK : many s.size = K) (hN : 7 + s.size = N2) (hZ : K * 64 - N2 = Z) : bcs (head7 m s.data.toList) ++ strCells s ++ List.replicate Z (.int .u8 0) = bcs (allB m s.data.toList) := by
  have hl : s.data.toList.length = s.size := by simp
  unfold allB
  rw [bcs_app, bcs_app, bcs_zeros, bcs_str, hl, hK, hN, hZ]
theorem blk_size {a : List UInt8} {k K : Nat} (ha : a.length = K * 64) (hk : k < K) : (blkAt a k).size = 64 := by
  show ((a.drop (k * 64)).take 64).toArray.size = 64
  simp
  omega
theorem blk_bytes {w : World} {g : Nat} {a : List UInt8} {k K : Nat} (hc : ∀ j u, (bcs a)[j]? = some u → w.cell? ((⟨g, 0, none⟩ : Addr).add j) = some u) (ha : a.length = K * 64) (hk : k < K) : Lib.Bytes w g (k * 64) (blkAt a k) := fun i hi => by
  have hi64 : i < 64 := by rw [blk_size ha hk] at hi; exact hi
  have := hc (k * 64 + i) (.int .u8 (((blkAt a k)[i]).toNat : Int)) (by
    unfold bcs
    rw [List.getElem?_map]
    have e : (blkAt a k).data.toList[i]? = some (blkAt a k)[i] := by
      rw [List.getElem?_eq_getElem (by simpa using hi)]
      rfl
    have e2 : (blkAt a k).data.toList = (a.drop (k * 64)).take 64 := by simp [blkAt]
    rw [e2, List.getElem?_take, if_pos hi64, List.getElem?_drop] at e
    rw [e]
    rfl)
  rwa [addr_add, Nat.zero_add] at this
theorem layL_take {m : Bool} {l : List UInt8} {k : Nat} (h : k < many l.length) : (layL m l).take (k + 1) = (layL m l).take k ++ [blkAt (allB m l) k] := by
  rw [List.take_succ_eq_append_getElem (by rw [layL_len]; exact h)]
  simp [layL]
theorem strs_snoc (l : List ByteArray) (b : ByteArray) : strsR (l ++ [b]) = strsR l ++ [.string b] := by simp [strsR]
end Go.Proofs.YtjiphalannmcnaaDoor.REC
