/- The walks of the reference's store. -/
import Derived.Test.YtdapcahphaldjaaStoreB
import Derived.Test.YtdapcahphaldjaaStepCall
namespace Go.Proofs.Ytdapcahphaldjaa.Store
open Go.RowKit
set_option linter.unusedVariables false
set_option linter.unusedSimpArgs false

theorem info_str : (Try.prog.info? 9).map (fun i => (i.zero, i.size, i.bytes)) = some (some (.string ByteArray.empty), 1, 16) := by kernel_rfl
theorem E_str : ElemT Try.prog 39 9 1 16 := .mk' Try.underlying39 info_str rfl (by decide)
def strs (bl : List ByteArray) : List Value := bl.map Value.string

/-- Bytes 0, so many. -/
def pad (n : Nat) : ByteArray := ⟨(List.replicate n (0 : UInt8)).toArray⟩
def padCells (n : Nat) : Array Value := (List.replicate n (Value.int .u8 0)).toArray
theorem pad_size (n : Nat) : (pad n).size = n := by simp [pad, ByteArray.size]
theorem pad_get {n i : Nat} (h : i < (pad n).size) : (pad n)[i] = 0 := by
  show ((List.replicate n (0 : UInt8)).toArray)[i]'(by simpa [pad, ByteArray.size] using h) = 0
  simp
theorem alloc1 (w : World) (o : Obj) : Below w.heap.size w (w.alloc o) := (Below.refl _ _).alloc (Nat.le_refl _) _
theorem info_u8 : (Try.prog.info? 5).map (fun i => (i.zero, i.size, i.bytes)) = some (some (.int .u8 0), 1, 1) := by kernel_rfl
theorem made_bytes (w : World) (n : Nat) (hn : n ≤ 4096) : (Instr.makeSlice 78 (.int .i64 (n : Int)) (.int .i64 (n : Int))).run Try.prog w = .ok (.slice (some ⟨w.heap.size, 0, none⟩) n n) (w.alloc (.cells (padCells n) 5)) := by
  obtain ⟨i, h1, h2, h3, h4⟩ := info_parts info_u8
  have := run_makeSlice (P := Try.prog) w _ _ i _ Try.underlying78 h1 h2 .i64 .i64 (n : Int) (n : Int) (by omega) (by omega) (by rw [h3]; simp; omega) (by rw [h4]; omega) (by omega)
  rw [this, h3]
  simp only [Int.toNat_natCast, Nat.mul_one]
  have e : madeCells (Value.int .u8 0).cells n = padCells n := made_rep 1 n _ (by omega)
  rw [e]
theorem pad_bytes {w : World} {g n : Nat} (h : Blk w g 5 (padCells n)) : Lib.Bytes w g 0 (pad n) := fun i hi => by
  rw [pad_size] at hi
  rw [Nat.zero_add, h.cell, pad_get]
  simp [padCells, hi]
theorem pad_read {w : World} {g n : Nat} (h : Blk w g 5 (padCells n)) : (convert 78 9 (.slice (some ⟨g, 0, none⟩) n n)).run Try.prog w = .ok (.string (pad n)) w := by
  have := Lib.run_convert_whole (P := Try.prog) w 78 5 9 Try.underlying78 Try.underlying5 Try.underlying9 g 0 (pad n) (pad_bytes h) n
  rwa [pad_size] at this
theorem zeros_pad : zeros = pad 64 := rfl

theorem zeros_any (w : World) : Calls Try.prog 46 #[] w fun e w' => e = .returned (.string zeros) ∧ Below w.heap.size w w' := by
  have hmk : (Instr.makeSlice 78 (.int .i64 64) (.int .i64 64)).run Try.prog w = .ok (.slice (some ⟨w.heap.size, 0, none⟩) 64 64) (w.alloc (.cells (padCells 64) 5)) := made_bytes w 64 (by omega)
  have hcv := pad_read (Blk.new w 5 (padCells 64))
  rw [← zeros_pad] at hcv
  generalize padCells 64 = pc at *
  go_enter Try.func46, Try.ntmps46
  go_wp2_with fail
  go_ret
  exact ⟨rfl, (Below.refl _ _).alloc (Nat.le_refl _) _⟩

/-- The reference's store as it lies. -/
structure RW (R g cap n : Nat) (s : SS) (w : World) : Prop where
  bs : Blk w R 76 #[.slice (some ⟨g, 0, none⟩) n cap, .int .i64 s.left, .int .i64 s.torn, .bool s.down, .int .i64 s.many]
  own : w.ownsRow 0 9 1 (.slice (some ⟨g, 0, none⟩) n cap) n (strs s.bl)
  ne : R ≠ g
  len : s.bl.length = n
  all : All64 s.bl
  lo : 3 ≤ n
  hi : n ≤ 4096

theorem own_set {w : World} {base e size n : Nat} {v : Value} {xs : List Value} (h : w.ownsRow base e size v n xs) {p : Addr} (hv : ∀ k, v.ownBlock = some k → k ≠ p.block) (u : Value) : (w.setCell p u).ownsRow base e size v n xs :=
  own_fr h ((Fr.refl (fun k => k = p.block) w).setCell (fun _ => rfl) u) hv
theorem own_mono {w : World} {base base' e size n : Nat} {v : Value} {xs : List Value} (h : w.ownsRow base e size v n xs) (hb : base' ≤ base) : w.ownsRow base' e size v n xs := by
  refine ⟨h.1, ?_⟩
  rcases h.2 with hn | ⟨g, cap, cur, a, b, c⟩
  · exact .inl hn
  · exact .inr ⟨g, cap, cur, a, by omega, c⟩
/-- In the loop of the reference's New. -/
structure RNew (w0 : World) (k : Nat) (v : Value) (w : World) : Prop where
  bs : Blk w w0.heap.size 76 #[v, .int .i64 (-1), .int .i64 0, .bool false, .int .i64 0]
  own : w.ownsRow (w0.heap.size + 1) 9 1 v k (strs (List.replicate k zeros))
  be : Below w0.heap.size w0 w

theorem RNew.drew {w0 w : World} {k : Nat} {v : Value} (h : RNew w0 k v w) : RNew w0 k v w.drew := ⟨h.bs, h.own, h.be.drew⟩
theorem RNew.ownNe {w0 w : World} {k : Nat} {v : Value} (h : RNew w0 k v w) : some w0.heap.size ≠ v.ownBlock := fun e => by
  have := (h.own.lt _ e.symm).1
  omega
theorem RNew.later {w0 w w' : World} {k : Nat} {v : Value} (h : RNew w0 k v w) (hb : Below w.heap.size w w') : RNew w0 k v w' :=
  ⟨h.bs.below hb h.bs.lt, own_fr h.own (Fr.later (S := fun _ => False) hb) (by simp), h.be.trans (hb.mono h.be.size)⟩
theorem RNew.step {w0 w w3 : World} {k q cap : Nat} {v : Value} {o : Obj} (h : RNew w0 k v w) (hown : w3.ownsRow (w0.heap.size + 1) 9 1 (.slice (some ⟨q, 0, none⟩) (k + 1) cap) (k + 1) (strs (List.replicate k zeros) ++ [.string zeros])) (hg : (w.alloc o).grownBy w3 v.ownBlock) :
    RNew w0 (k + 1) (.slice (some ⟨q, 0, none⟩) (k + 1) cap) (w3.setCell ⟨w0.heap.size, 0, none⟩ (.slice (some ⟨q, 0, none⟩) (k + 1) cap)) := by
  have hq := (hown.lt q rfl).1
  refine ⟨?_, ?_, ?_⟩
  · have := ((h.bs.alloc o).grown hg h.ownNe).set_ 0 (.slice (some ⟨q, 0, none⟩) (k + 1) cap)
    simpa using this
  · have e : strs (List.replicate (k + 1) zeros) = strs (List.replicate k zeros) ++ [.string zeros] := by simp [strs, List.replicate_succ']
    rw [e]
    exact own_set hown (fun j e => by have : q = j := by simpa [Value.ownBlock] using e
                                      simp; omega) _
  · exact ((h.be.alloc h.be.size _).grown hg (by simp; have := h.be.size; omega) (fun j hj => by have := (h.own.lt j hj).1; omega)).setCell (Nat.le_refl _) _
set_option maxHeartbeats 2000000 in
set_option maxRecDepth 100000 in
theorem rnew_ok (n : Nat) (w : World) (h3 : 3 ≤ n) (hn : n ≤ 4096) : Calls Try.prog 15 #[.int .i64 (n : Int)] w fun e w' => ∃ R g cap, e = .returned (.tuple #[.pointer (some ⟨R, 0, none⟩), .int .i64 0]) ∧ w.heap.size ≤ R ∧ w.heap.size ≤ g ∧ RW R g cap n (SS.new n) w' ∧ Below w.heap.size w w' := by
  go_enter Try.func15, Try.ntmps15
  go_wp2_with fail
  have hst : RNew w 0 (.slice none 0 0) (w.alloc (.cells #[.slice none 0 0, .int .i64 (-1), .int .i64 0, .bool false, .int .i64 0] 76)) := ⟨Blk.new _ _ _, World.ownsRow_nil _ _ _ _, alloc1 _ _⟩
  have HST := Lib.hid hst
  clear hst
  go_loopw [5] (fun v wr => ∃ (k : Nat) (u : Value), v = .int .i64 (k : Int) ∧ k ≤ n ∧ RNew w k u wr) (fun v _ => n - (intOf v).toNat)
  case atStart => exact ⟨0, _, rfl, by omega, HST.out⟩
  case round =>
    obtain ⟨k, u, rfl, hk, hr⟩ := hrel
    have c0 : wr.cell? ⟨w.heap.size, 0, none⟩ = some u := hr.bs.cell 0
    have f0 := hr.bs.frozen 0
    have HR := Lib.hid hr
    have hsz := hr.bs.lt
    clear hr
    by_cases hlt : k < n
    · have hb1 : (k + 1) * 16 ≤ 140737488355328 := by omega
      have hb2 : k + 1 ≤ maxLen := by unfold maxLen; omega
      go_wp2_with fail
      go_region_law ((first | (refine step_app E_str rfl (.tmp 23) (.tmp 25) rfl rfl ((HZ.out.own.alloc _)) ⟨w2.heap.size, 0, none⟩ 1 1 [_] rfl rfl (World.news_of_block (heap_alloc_new w2 _)) (by simp [Value.oneCell']) hb1 hb2 (by simp; omega) (by decide) (w2.heap.size + 1) (by simp) ?_; intro q cap w3 hown hg hat hlt; have bs3 := (HZ.out.bs.alloc _).grown hg (HZ.out.ownNe); have f3 := bs3.frozen 0; have c3 := bs3.cell 0; have B3 := Lib.hid bs3; have HO := Lib.hid hown; have HG := Lib.hid hg; have HA := Lib.hid hat; clear bs3 hown hg hat) | (refine step_gocall rfl 46 Try.func46 (by kernel_rfl) rfl _ _ rfl #[] (by simp) _ rfl ?_; refine (zeros_any _).mono ?_; rintro e w2 ⟨rfl, hb⟩; refine ⟨_, rfl, ?_⟩; have HZ := Lib.hid (RNew.later (HR.out.drew) hb); have c2 : w2.cell? ⟨w.heap.size, 0, none⟩ = some u := HZ.out.bs.cell 0; have z2 := HZ.out.bs.lt; have z3 := HZ.out.be.size; clear hb)))
      all_goals
        go_wp2_with fail
        go_roundw
        case rel => exact ⟨k + 1, _, by go_num, by omega, HZ.out.step HO.out HG.out⟩
        case measure => simp only [intOf]; omega
    · obtain rfl : k = n := by omega
      obtain ⟨g, cap, hu, hb, hgl⟩ := HR.out.own.form (by omega)
      subst hu
      go_wp2_with fail
      go_ret2
      exact ⟨w.heap.size, g, cap, rfl, Nat.le_refl _, by omega, ⟨HR.out.bs, own_mono HR.out.own (Nat.zero_le _), by omega, by simp [SS.new], All64.new k, h3, hn⟩, HR.out.be⟩
end Go.Proofs.Ytdapcahphaldjaa.Store
