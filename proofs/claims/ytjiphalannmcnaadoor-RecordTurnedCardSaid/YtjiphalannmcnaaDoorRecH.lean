/- The walk of the law RecordTurned. -/
import Derived.Test.YtjiphalannmcnaaDoorRecG
import Derived.Test.YtjiphalannmcnaaDoorRecM5
import Derived.Deep.RegionHeld
namespace Go.Proofs.YtjiphalannmcnaaDoor.REC
open Go.RowKit
set_option linter.unusedVariables false
set_option linter.unusedSimpArgs false

theorem bytesWorld_free (w : World) (e : TypeId) (s : ByteArray) {j : Nat} (h : j < s.size) : (Lib.bytesWorld w e s).frozen? ⟨w.heap.size, j, none⟩ = false := by
  have hs : s.size ≤ (Lib.bytesCells w e s).size := by
    unfold Lib.bytesCells
    rw [Array.size_append, Array.size_map]
    exact Nat.le_add_right _ _
  simp only [World.frozen?, Lib.bytesWorld_at_new]
  simp
  omega
theorem bytes_turn {w : World} {e : TypeId} {s : ByteArray} {j : Nat} {x : UInt8} (hs : s.size = 64) (hj : j < 64) :
    Lib.Bytes ((Lib.bytesWorld w e s).setCell ⟨w.heap.size, j, none⟩ (.int .u8 (x.toNat : Int))) w.heap.size 0 ⟨(s.data.toList.set j x).toArray⟩ := fun i hi => by
  have hi64 : i < 64 := by rw [Lib.size_mk, List.length_set] at hi; simpa [hs] using hi
  have hc : ∀ i, i < 64 → (Lib.bytesWorld w e s).cell? ⟨w.heap.size, i, none⟩ = some (.int .u8 ((s.data.toList.getD i 0).toNat : Int)) := fun i hi => Lib.bytesWorld_cell w e s i (by omega)
  have hg : (⟨(s.data.toList.set j x).toArray⟩ : ByteArray)[i] = (s.data.toList.set j x).getD i 0 := by
    rw [List.getD_eq_getElem?_getD, List.getElem?_eq_getElem (by simpa [hs] using hi64)]
    rfl
  rw [hg, getD_set (by simp [hs]; exact hj), Nat.zero_add]
  by_cases h : i = j
  · subst h
    rw [if_pos rfl]
    exact World.cell?_setCell_same _ _ _ (hc i hi64)
  · rw [if_neg h, World.cell?_setCell_other _ _ _ _ (by intro c; injection c with _ c2 _; exact h c2.symm)]
    exact hc i hi64
theorem own_blk {w : World} {base K c g : Nat} {e : TypeId} {xs : List Value} (h : w.ownsRow base e 1 (.slice (some ⟨g, 0, none⟩) K c) K xs) : ∃ cs, Blk w g e cs := by
  rcases h.2 with ⟨h2, _⟩ | ⟨g', cap, cur, hv, _, hh, _⟩
  · cases h2
  · injection hv with e1 _ _
    injection e1 with e1
    injection e1 with e1
    subst e1
    exact ⟨cur, hh⟩
theorem SRow.set {w : World} {g : Nat} {xs : List ByteArray} (h : SRow w g xs) (q : Nat) (hq : q < xs.length) (b : ByteArray) : SRow (w.setCell ⟨g, q, none⟩ (.string b)) g (xs.set q b) := by
  refine ⟨by simpa using h.1, fun j x hx => ?_⟩
  rw [List.getElem?_set] at hx
  rw [Nat.zero_add]
  by_cases hj : q = j
  · subst hj
    rw [if_pos rfl, if_pos hq] at hx
    injection hx with hx
    subst hx
    have := h.2 q xs[q] (List.getElem?_eq_getElem hq)
    rw [Nat.zero_add] at this
    exact World.cell?_setCell_same _ _ _ this
  · rw [if_neg hj] at hx
    have := h.2 j x hx
    rw [Nat.zero_add] at this
    rw [World.cell?_setCell_other _ _ _ _ (by intro c; injection c with _ c2 _; exact hj c2)]
    exact this
theorem SRow.far {w : World} {g : Nat} {xs : List ByteArray} (h : SRow w g xs) {p : Addr} (hp : p.block ≠ g) (u : Value) : SRow (w.setCell p u) g xs :=
  ⟨by simpa using h.1, fun j x hx => by rw [World.cell?_setCell_far _ _ _ _ hp]; exact h.2 j x hx⟩
set_option maxHeartbeats 1000000 in
set_option maxRecDepth 100000 in
theorem turned_no (s : ByteArray) (a b : Nat) (w : World) (hb : b < 256) (h : 3000 < s.size ∨ b = 0) :
    Calls Tryd.prog 5 #[.string s, .int .u16 (a : Int), .int .u8 (b : Int)] w fun e w' => e = .returned (.bool true) ∧ Below w.heap.size w w' := by
  by_cases h1 : 3000 < s.size
  · have h2 : (3000 : Int) < (s.size : Int) := by omega
    clear h
    go_enter Tryd.func5, Tryd.ntmps5
    go_wp2_with fail
    refine (awake06 _).mono ?_
    rintro e w1 ⟨rfl, hb⟩
    have HB := Lib.hid hb
    clear hb
    go_wp2_with fail
    go_ret
    exact ⟨rfl, HB.out⟩
  · have h2 : ¬ (3000 : Int) < (s.size : Int) := by omega
    obtain rfl : b = 0 := h.resolve_left h1
    clear h hb
    go_enter Tryd.func5, Tryd.ntmps5
    go_wp2_with fail
    refine (awake06 _).mono ?_
    rintro e w1 ⟨rfl, hb⟩
    have HB := Lib.hid hb
    clear hb
    go_wp2_with fail
    go_ret
    exact ⟨rfl, HB.out⟩
theorem xor_byte (x : UInt8) {b : Nat} (hb : b < 256) : bits .xor .u8 (x.toNat : Int) (b : Int) = (((x ^^^ UInt8.ofNat b).toNat : Nat) : Int) := by
  rw [u8_xor_nat _ _ x.toNat_lt hb, UInt8.toNat_xor]
  simp
  rw [Nat.mod_eq_of_lt hb]
theorem ofNat_ne {b : Nat} (hb : b < 256) (h : b ≠ 0) : UInt8.ofNat b ≠ 0 := fun e => by
  have := congrArg UInt8.toNat e
  simp at this
  omega
theorem blk_getD {a : List UInt8} {q r : Nat} (hr : r < 64) : (blkAt a q).data.toList.getD r 0 = a.getD (q * 64 + r) 0 := by
  rw [show (blkAt a q).data.toList = (a.drop (q * 64)).take 64 by simp [blkAt]]
  simp [List.getD_eq_getElem?_getD, List.getElem?_take, hr, List.getElem?_drop]
set_option maxHeartbeats 4000000 in
set_option maxRecDepth 100000 in
theorem turned06_go (s : ByteArray) (a b : Nat) (w : World) (h : s.size ≤ 3000) (ha : a < 65536) (hb : b < 256) (h0 : b ≠ 0) :
    Calls Tryd.prog 5 #[.string s, .int .u16 (a : Int), .int .u8 (b : Int)] w fun e w' => e = .returned (.bool true) ∧ Below w.heap.size w w' := by
  have HLT := Lib.hid (fun w => lay_any s true w h)
  have hsl : s.data.toList.length = s.size := by simp
  have hm1 := (many_room s.size).2
  have hm2 : many s.size ≤ 48 := by unfold many; omega
  have hlay : layL true s.data.toList = blks (allB true s.data.toList) (many s.size) := by unfold layL blks; rw [hsl]
  obtain ⟨K, hK⟩ : ∃ K, many s.size = K := ⟨_, rfl⟩
  rw [hlay, hK] at HLT
  rw [hK] at hm1 hm2
  obtain ⟨k, hk⟩ : ∃ k, a % (64 * K) = k := ⟨_, rfl⟩
  have hkl : k < K * 64 := by rw [← hk]; have := Nat.mod_lt a (show 0 < 64 * K by omega); omega
  obtain ⟨x, hx⟩ : ∃ x, (allB true s.data.toList).getD k 0 ^^^ UInt8.ofNat b = x := ⟨_, rfl⟩
  have hT : Turn s.data.toList K k x := ⟨by omega, by rw [hsl]; exact hK, hkl, by rw [← hx]; exact xor_ne (ofNat_ne hb h0)⟩
  obtain ⟨q, hq⟩ : ∃ q, k / 64 = q := ⟨_, rfl⟩
  obtain ⟨r, hr⟩ : ∃ r, k % 64 = r := ⟨_, rfl⟩
  have hqK : q < K := by omega
  have hr64 : r < 64 := by omega
  have hset := blks_set (a := allB true s.data.toList) (K := K) (k := k) (x := x) (by omega)
  rw [hq, hr] at hset
  have hgd := blk_getD (a := allB true s.data.toList) (q := q) (r := r) hr64
  rw [show q * 64 + r = k by omega] at hgd
  have hbs : (blkAt (allB true s.data.toList) q).size = 64 := blk_size hT.al hqK
  have hfx := xor_byte ((allB true s.data.toList).getD k 0) hb
  rw [hx, ← hgd] at hfx
  have hL0 : (blks (allB true s.data.toList) K)[q]? = some (blkAt (allB true s.data.toList) q) := by simp [blks, hqK]
  have hLl : (blks (allB true s.data.toList) K).length = K := blks_len
  have HTF := Lib.hid (fun h3 => turned_far hT h3)
  have HTN := Lib.hid (fun h3 => turned_near hT h3)
  rw [hset] at HTF HTN
  rw [hsl] at HTN
  generalize allB true s.data.toList = AB at *
  generalize blks AB K = L at *
  obtain ⟨bk, hbk⟩ : ∃ z, blkAt AB q = z := ⟨_, rfl⟩
  rw [hbk] at HTF HTN hgd hbs hfx hL0
  have h3 : ¬ (3000 : Int) < (s.size : Int) := by omega
  have hb2 : ¬ (b : Int) = 0 := by omega
  have hb3 : ((b : Int) == 0) = false := by simpa using hb2
  have k1 : ¬ (K : Int) = 0 := by omega
  have k2 : ((K : Int) == 0) = false := by simpa using k1
  have k3 : ¬ K = 0 := by omega
  have c1 : IntKind.i64.wrap (a : Int) = (a : Int) := IntWalk.i64_in _ (by omega)
  have c2 : IntKind.i64.wrap (64 * (K : Int)) = 64 * (K : Int) := IntWalk.i64_in _ (by omega)
  have c3 : (a : Int).tmod (64 * (K : Int)) = (k : Int) := by rw [Int.tmod_eq_emod_of_nonneg (by omega), ← hk]; simp
  have c4 : (k : Int).tdiv 64 = (q : Int) := by rw [Int.tdiv_eq_ediv_of_nonneg (by omega)]; omega
  have c5 : (k : Int).tmod 64 = (r : Int) := by rw [Int.tmod_eq_emod_of_nonneg (by omega)]; omega
  have c6 : (0 : Int) ≤ (q : Int) := Int.natCast_nonneg _
  have c7 : (q : Int) < (K : Int) := by omega
  have c8 : (0 : Int) ≤ (r : Int) := Int.natCast_nonneg _
  have c9 : (r : Int) < 64 := by omega
  have HBS := Lib.hid hbs
  have HGD := Lib.hid hgd
  have HL0 := Lib.hid hL0
  have HLL := Lib.hid hLl
  have HK64 := Lib.hid hkl
  clear hlay hK hk hx hT hq hr hset hgd hL0 hLl hbk hsl hkl h ha h0
  go_enter Tryd.func5, Tryd.ntmps5
  go_wp2_with fail
  refine (awake06 _).mono ?_
  rintro e w0 ⟨rfl, hb⟩
  have HB0 := Lib.hid hb
  clear hb
  go_wp2_with fail
  refine (HLT.out _).mono ?_
  rintro e w1 ⟨A1, c1', rfl, ho1, hb1⟩
  have HB1 := Lib.hid (HB0.out.trans (hb1.mono HB0.out.size))
  obtain ⟨g1, rfl, hg1, hc1, hs1⟩ := own_srow ho1 hm1
  obtain ⟨cs, hblk⟩ := own_blk ho1
  have HS1 := Lib.hid hs1
  have HBK := Lib.hid hblk
  have HG1 := Lib.hid hg1
  have x1 : w1.cell? ⟨g1, q, none⟩ = some (.string bk) := by have := hs1.2 q bk HL0.out; rwa [Nat.zero_add] at this
  have hcv := Lib.run_convert_string_bytes (P := Tryd.prog) w1 9 39 5 bk Tryd.underlying9 Tryd.underlying39 Tryd.underlying5
  rw [HBS.out] at hcv
  have hbw := Lib.bytesWorld_below w1 5 bk
  have y1 := Lib.bytesWorld_cell w1 5 bk r (by rw [HBS.out]; exact hr64)
  have y2 := bytesWorld_free w1 5 bk (j := r) (by rw [HBS.out]; exact hr64)
  have hbt := bytes_turn (w := w1) (e := 5) (s := bk) (j := r) (x := x) HBS.out hr64
  have hs2 := hs1.later hbw
  have hk2 := hblk.below hbw hblk.lt
  have HG2 := Lib.hid (show w1.heap.size ≠ g1 from by have := hblk.lt; omega)
  have HB4 := Lib.hid (HB1.out.trans (hbw.mono HB1.out.size))
  have hgz : w0.heap.size ≤ w1.heap.size := hb1.size
  generalize Lib.bytesWorld w1 5 bk = w4 at *
  obtain ⟨bn, hbn⟩ : ∃ z : ByteArray, ⟨(bk.data.toList.set r x).toArray⟩ = z := ⟨_, rfl⟩
  rw [hbn] at hbt HTF HTN
  have hbns : bn.size = 64 := by rw [← hbn, Lib.size_mk, List.length_set]; have := HBS.out; simpa using this
  have HBT := Lib.hid hbt
  have HS2 := Lib.hid hs2
  have HK2 := Lib.hid hk2
  have HBNS := Lib.hid hbns
  generalize (bk.data.toList.getD r 0).toNat = bo at *
  clear ho1 hb1 hs1 hblk hg1 hbw hbt hs2 hk2 hbn hbns
  have hcv2 := Lib.run_convert_whole (P := Tryd.prog) (w4.setCell ⟨w1.heap.size, r, none⟩ (.int .u8 (x.toNat : Int))) 39 5 9 Tryd.underlying39 Tryd.underlying5 Tryd.underlying9 w1.heap.size 0 bn HBT.out (grownCap w1 64 0 5)
  rw [HBNS.out] at hcv2
  have hs5 := HS2.out.far (p := ⟨w1.heap.size, r, none⟩) HG2.out (.int .u8 (x.toNat : Int))
  have hk5 := HK2.out.far (p := ⟨w1.heap.size, r, none⟩) (Ne.symm HG2.out) (.int .u8 (x.toNat : Int))
  have hb5 := HB4.out.setCell (p := ⟨w1.heap.size, r, none⟩) (Nat.le_trans HB0.out.size hgz) (.int .u8 (x.toNat : Int))
  have z1 : (w4.setCell ⟨w1.heap.size, r, none⟩ (.int .u8 (x.toNat : Int))).cell? ⟨g1, q, none⟩ = some (.string bk) := by have := hs5.2 q bk HL0.out; rwa [Nat.zero_add] at this
  have z2 := hk5.frozen q
  have hs6 := hs5.set q (by rw [HLL.out]; omega) bn
  have hb6 := hb5.setCell (p := ⟨g1, q, none⟩) (Nat.le_trans HB0.out.size HG1.out) (.string bn)
  have HS6 := Lib.hid hs6
  have HB6 := Lib.hid hb6
  clear hs5 hk5 hb5 hs6 hb6
  go_wp2_with fail
  obtain ⟨w6, hw6⟩ : ∃ z, (w4.setCell ⟨w1.heap.size, r, none⟩ (.int .u8 (x.toNat : Int))).setCell ⟨g1, q, none⟩ (.string bn) = z := ⟨_, rfl⟩
  rw [hw6] at HS6 HB6 ⊢
  have hj := join_any (L.set q bn) g1 0 c1' w6 HS6.out.2 HS6.out.1 (by rw [List.length_set, HLL.out]; exact hc1) (by rw [List.length_set, HLL.out]; omega)
  rw [List.length_set, HLL.out] at hj
  by_cases h3k : 3 ≤ k
  · obtain ⟨g1', g2'⟩ := jn_bad (HTF.out h3k) (by decide)
    rw [g1', g2'] at hj
    have HJ := Lib.hid hj
    have d1 : (3 : Int) ≤ (k : Int) := by omega
    clear hj g1' g2' hcv2 hcv z1 z2 y1 y2 hw6
    refine HJ.out.mono ?_
    rintro e w7 ⟨rfl, hb7⟩
    have HB7 := Lib.hid (HB6.out.trans (hb7.mono HB6.out.size))
    clear hb7
    go_wp2_with fail
    go_ret
    exact ⟨rfl, HB7.out⟩
  · have hnear := HTN.out (by omega)
    have d1 : ¬ (3 : Int) ≤ (k : Int) := by omega
    obtain ⟨je, hje⟩ : ∃ z, jnE (L.set q bn) = z := ⟨_, rfl⟩
    rw [hje] at hj hnear
    by_cases hz : je = 0
    rotate_left
    · obtain ⟨_, g2'⟩ := jn_bad hje hz
      rw [g2'] at hj
      have HJ := Lib.hid hj
      have d2 : (je == 0) = false := by simpa using hz
      clear hj g2' hcv2 hcv z1 z2 y1 y2 hw6 hje hnear
      refine HJ.out.mono ?_
      rintro e w7 ⟨rfl, hb7⟩
      have HB7 := Lib.hid (HB6.out.trans (hb7.mono HB6.out.size))
      clear hb7
      go_wp2_with fail
      go_ret
      exact ⟨rfl, HB7.out⟩
    · obtain ⟨hk0, hsz⟩ := hnear.resolve_left (fun z => z hz)
      subst hz
      obtain ⟨js, hjs⟩ : ∃ z, jnS (L.set q bn) = z := ⟨_, rfl⟩
      rw [hjs] at hj hsz
      have HJ := Lib.hid hj
      have d3 : (0 : Int) < (k : Int) := by omega
      have d4 : ¬ js = s := fun z => hsz (by rw [z])
      have htl : js.toList ≠ s.toList := fun z => hsz (by
        rw [Go.ByteArray.toList_eq, Go.ByteArray.toList_eq] at z
        have := congrArg List.length z
        rw [← Lib.size_eq, ← Lib.size_eq] at this
        exact this)
      have d5 : (js.toList == s.toList) = false := by simpa using htl
      have HB := Lib.hid hb
      clear hj hcv2 hcv z1 z2 y1 y2 hw6 hje hjs hsz
      refine HJ.out.mono ?_
      rintro e w7 ⟨rfl, hb7⟩
      have HB7 := Lib.hid (HB6.out.trans (hb7.mono HB6.out.size))
      clear hb7
      by_cases hem : js.toList = []
      · have d6 : s.toList.isEmpty = false := by
          cases hq2 : s.toList with
          | nil => exact absurd (hem.trans hq2.symm) htl
          | cons _ _ => rfl
        have d7 : js.toList.isEmpty = true := by rw [hem]; rfl
        have hjt : js.toList = [] := hem
        clear hem htl
        go_wp2_with fail
        go_ret
        exact ⟨rfl, HB7.out⟩
      · have d7 : js.toList.isEmpty = false := by cases hq2 : js.toList <;> simp_all
        go_wp2_with fail
        go_ret
        exact ⟨rfl, HB7.out⟩
theorem turned_walk (s : ByteArray) (a b : Nat) (w : World) (ha : a < 65536) (hb : b < 256) :
    Calls Tryd.prog 5 #[.string s, .int .u16 (a : Int), .int .u8 (b : Int)] w fun e w' => e = .returned (.bool true) ∧ Below w.heap.size w w' := by
  by_cases h : 3000 < s.size
  · exact turned_no s a b w hb (.inl h)
  · by_cases h0 : b = 0
    · exact turned_no s a b w hb (.inr h0)
    · exact turned06_go s a b w (by omega) ha hb h0
end Go.Proofs.YtjiphalannmcnaaDoor.REC
