/- The walk of cents.Sum. -/
import Derived.Test.YtbdhbongaikphaaSumMath
import Derived.Test.YtbdhbongaikphaaMem
import Derived.Deep.LoopGhost
import Derived.RegionTactic
import Derived.BigRegion
namespace Go.Proofs.Ytbdhbongaikphaa.Cents
open Go.RowKit
set_option linter.unusedVariables false
set_option linter.unusedSimpArgs false

theorem info_i64 : (Try.prog.info? 2).map (fun i => (i.zero, i.size, i.bytes)) = some (some (.int .i64 0), 1, 8) := by kernel_rfl

def ints (xs : List Int) : List Value := xs.map (Value.int .i64)
theorem ints_len (xs : List Int) : (ints xs).length = xs.length := by simp [ints]

/-- In the first loop: what was read so far lies in two rows of the call's own. -/
structure S1 (w0 : World) (xs : List Int) (k : Nat) (vr vp : Value) (wr : World) : Prop where
  br : Blk wr w0.heap.size 41 #[vr]
  bp : Blk wr (w0.heap.size + 1) 41 #[vp]
  or : wr.ownsRow (w0.heap.size + 2) 2 1 vr (CM.rich (xs.take k)).length (ints (CM.rich (xs.take k)))
  op : wr.ownsRow (w0.heap.size + 2) 2 1 vp (CM.poor (xs.take k)).length (ints (CM.poor (xs.take k)))
  ne : vr.ownBlock = none ∨ vr.ownBlock ≠ vp.ownBlock
  be : Below w0.heap.size w0 wr

theorem E_i64 : ElemT Try.prog 41 2 1 8 := .mk' Try.underlying41 info_i64 rfl (by decide)

theorem own_ne {w : World} {base e size n : Nat} {v : Value} {xs : List Value} (h : w.ownsRow base e size v n xs) {g : Nat} (hg : g < base) : some g ≠ v.ownBlock := fun he => by
  have := (h.lt g he.symm).1; omega
theorem own_other {w w1 : World} {base e size n : Nat} {v v2 : Value} {xs : List Value} (h : w.ownsRow base e size v n xs) (hg : w.grownBy w1 v2.ownBlock) (hne : v.ownBlock = none ∨ v.ownBlock ≠ v2.ownBlock) : w1.ownsRow base e size v n xs := h.kept hg hne
theorem take_snoc {xs : List Int} {k : Nat} (hk : k < xs.length) : xs.take (k + 1) = xs.take k ++ [xs[k]] := by rw [List.take_succ_eq_append_getElem hk]

theorem one_cell (k : IntKind) (x : Int) : ∀ u ∈ [Value.int k x], u.oneCell' = true := by simp [Value.oneCell']

theorem S1.start (w : World) (xs : List Int) : S1 w xs 0 (.slice none 0 0) (.slice none 0 0) ((w.alloc (.cells #[.slice none 0 0] 41)).alloc (.cells #[.slice none 0 0] 41)) where
  br := (Blk.new w _ _).alloc _
  bp := by have := Blk.new (w.alloc (.cells #[.slice none 0 0] 41)) 41 #[.slice none 0 0]; simpa using this
  or := World.ownsRow_nil _ _ _ _
  op := World.ownsRow_nil _ _ _ _
  ne := .inl rfl
  be := ((Below.refl _ _).alloc (Nat.le_refl _) _).alloc (by simp) _

theorem S1.poor {w wr w1 : World} {xs : List Int} {k : Nat} {vr vp v' : Value} {o : Obj} (h : S1 w xs k vr vp wr) (hk : k < xs.length) {x : Int} (hx : x = xs[k]) (hn : x < 0)
    (hown : w1.ownsRow (w.heap.size + 2) 2 1 v' ((CM.poor (xs.take k)).length + 1) (ints (CM.poor (xs.take k)) ++ [.int .i64 x])) (hg : (wr.alloc o).grownBy w1 vp.ownBlock)
    {g : Nat} (hv : v'.ownBlock = some g) (hat : vp.ownBlock = some g ∨ g = (wr.alloc o).heap.size) : S1 w xs (k + 1) vr v' (w1.setCell ⟨w.heap.size + 1, 0, none⟩ v') := by
  have hsz := h.bp.lt
  have e1 : CM.rich (xs.take (k + 1)) = CM.rich (xs.take k) := by rw [take_snoc hk, CM.rich_snoc, if_pos (by omega)]
  have e2 : CM.poor (xs.take (k + 1)) = CM.poor (xs.take k) ++ [x] := by rw [take_snoc hk, CM.poor_snoc, if_pos (by omega), hx]
  have b1 : Below w.heap.size w w1 := (h.be.alloc (by omega) _).grown hg (by simp; omega) (fun j hj => by have := (h.op.lt j hj).1; omega)
  have bp1 : Blk w1 (w.heap.size + 1) 41 #[vp] := (h.bp.alloc _).grown hg (own_ne h.op (by omega))
  have br1 : Blk w1 w.heap.size 41 #[vr] := (h.br.alloc _).grown hg (own_ne h.op (by omega))
  refine ⟨br1.far (by simp) _, bp1.set_ 0 v', ?_, ?_, ?_, b1.setCell (by simp) _⟩
  · rw [e1]; exact ownsRow_setCell_below (own_other (h.or.alloc _) hg h.ne) (by simp) _
  · rw [e2, List.length_append, show ints (CM.poor (xs.take k) ++ [x]) = ints (CM.poor (xs.take k)) ++ [.int .i64 x] by simp [ints]]
    exact ownsRow_setCell_below hown (by simp) _
  · rcases h.ne with h1 | h1
    · exact .inl h1
    · rcases hat with h2 | h2
      · rw [hv, ← h2]; exact .inr h1
      · refine .inr fun he => ?_
        rw [hv, h2] at he
        have := (h.or.lt _ he).2
        have hz : (wr.alloc o).heap.size = wr.heap.size + 1 := by simp
        omega

theorem S1.rich {w wr w1 : World} {xs : List Int} {k : Nat} {vr vp v' : Value} {o : Obj} (h : S1 w xs k vr vp wr) (hk : k < xs.length) {x : Int} (hx : x = xs[k]) (hn : ¬ x < 0)
    (hown : w1.ownsRow (w.heap.size + 2) 2 1 v' ((CM.rich (xs.take k)).length + 1) (ints (CM.rich (xs.take k)) ++ [.int .i64 x])) (hg : (wr.alloc o).grownBy w1 vr.ownBlock)
    {g : Nat} (hv : v'.ownBlock = some g) (hat : vr.ownBlock = some g ∨ g = (wr.alloc o).heap.size) : S1 w xs (k + 1) v' vp (w1.setCell ⟨w.heap.size, 0, none⟩ v') := by
  have hsz := h.bp.lt
  have e1 : CM.rich (xs.take (k + 1)) = CM.rich (xs.take k) ++ [x] := by rw [take_snoc hk, CM.rich_snoc, if_neg (by omega), hx]
  have e2 : CM.poor (xs.take (k + 1)) = CM.poor (xs.take k) := by rw [take_snoc hk, CM.poor_snoc, if_neg (by omega)]
  have b1 : Below w.heap.size w w1 := (h.be.alloc (by omega) _).grown hg (by simp; omega) (fun j hj => by have := (h.or.lt j hj).1; omega)
  have bp1 : Blk w1 (w.heap.size + 1) 41 #[vp] := (h.bp.alloc _).grown hg (own_ne h.or (by omega))
  have br1 : Blk w1 w.heap.size 41 #[vr] := (h.br.alloc _).grown hg (own_ne h.or (by omega))
  have hne : vp.ownBlock = none ∨ vp.ownBlock ≠ vr.ownBlock := by
    rcases h.ne with h1 | h1
    · cases hq : vp.ownBlock with
      | none => exact .inl rfl
      | some q => exact .inr (by rw [h1]; simp)
    · exact .inr (fun e => h1 e.symm)
  refine ⟨br1.set_ 0 v', bp1.far (by simp) _, ?_, ?_, ?_, b1.setCell (by simp) _⟩
  · rw [e1, List.length_append, show ints (CM.rich (xs.take k) ++ [x]) = ints (CM.rich (xs.take k)) ++ [.int .i64 x] by simp [ints]]
    exact ownsRow_setCell_below hown (by simp) _
  · rw [e2]; exact ownsRow_setCell_below (own_other (h.op.alloc _) hg hne) (by simp) _
  · rcases hat with h2 | h2
    · rw [hv, ← h2]; exact h.ne
    · refine .inr fun he => ?_
      rw [hv, h2] at he
      have := (h.op.lt _ he.symm).2
      have hz : (wr.alloc o).heap.size = wr.heap.size + 1 := by simp
      omega

/-- In the second loop: what is still to be summed. -/
structure S2 (w0 : World) (t s : Int) (r p : List Int) (nr np : Nat) (Ar Ap : Option Addr) (cr cp : Nat) (wr : World) : Prop where
  br : Blk wr w0.heap.size 41 #[.slice Ar nr cr]
  bp : Blk wr (w0.heap.size + 1) 41 #[.slice Ap np cp]
  rr : Row wr (w0.heap.size + 2) Ar (ints r)
  rp : Row wr (w0.heap.size + 2) Ap (ints p)
  lr : nr = r.length
  lp : np = p.length
  hr : nr ≤ cr
  hp : np ≤ cp
  way : CM.Way t s r p
  be : Below w0.heap.size w0 wr

theorem own_slice {w : World} {base e size n : Nat} {v : Value} {xs : List Value} (h : w.ownsRow base e size v n xs) : ∃ A c, v = .slice A n c ∧ n ≤ c := by
  rcases h.2 with ⟨rfl, rfl⟩ | ⟨g, cap, cur, rfl, _, _, hn, _⟩
  · exact ⟨none, 0, rfl, Nat.le_refl _⟩
  · exact ⟨_, _, rfl, hn⟩

theorem S2.start {w wr : World} {xs : List Int} {vr vp : Value} (h : S1 w xs xs.length vr vp wr) (hx : ∀ x ∈ xs, I64 x) :
    ∃ nr np Ar Ap cr cp, vr = .slice Ar nr cr ∧ vp = .slice Ap np cp ∧ S2 w xs.sum 0 (CM.rich xs) (CM.poor xs) nr np Ar Ap cr cp wr := by
  have or := h.or
  have op := h.op
  rw [List.take_length] at or op
  obtain ⟨Ar, cr, rfl, hr⟩ := own_slice or
  obtain ⟨Ap, cp, rfl, hp⟩ := own_slice op
  exact ⟨_, _, _, _, _, _, rfl, rfl, h.br, h.bp, .of_own or (by decide), .of_own op (by decide), rfl, rfl, hr, hp, CM.Way.start hx, h.be⟩

theorem Row.init {w : World} {base : Nat} {A : Option Addr} {xs : List Int} {x : Int} (h : Row w base A (ints (xs ++ [x]))) : Row w base A (ints xs) := by
  have := h.take xs.length
  simpa [ints] using this
theorem Row.last {w : World} {base : Nat} {A : Option Addr} {xs : List Int} {x : Int} (h : Row w base A (ints (xs ++ [x]))) : ∃ ad, A = some ad ∧ w.cell? (ad.add xs.length) = some (.int .i64 x) := by
  obtain ⟨ad, e, _, hc⟩ := h.at_ (k := xs.length) (by simp [ints])
  refine ⟨ad, e, ?_⟩
  rw [hc]; simp [ints]

theorem S2.rich_step {w wr : World} {t s x : Int} {r p : List Int} {m np : Nat} {Ar Ap : Option Addr} {cr cp : Nat} (h : S2 w t s (r ++ [x]) p (m + 1) np Ar Ap cr cp wr) (h64 : I64 (s + x)) (n : Nat) :
    S2 w t (s + x) r p m np Ar Ap cr cp ((wr.drewN n).setCell ⟨w.heap.size, 0, none⟩ (.slice Ar m cr)) where
  br := h.br.set_ 0 _
  bp := h.bp.far (by simp) _
  rr := ((Row.init h.rr).drewN n).setCell (by simp) _
  rp := (h.rp.drewN n).setCell (by simp) _
  lr := by have := h.lr; simp at this; exact this
  lp := h.lp
  hr := by have := h.hr; omega
  hp := h.hp
  way := by
    have := CM.Way.rich h.way (by simp)
    simpa using this (by simpa using h64)
  be := (h.be.trans ⟨rfl, rfl, rfl, Nat.le_refl _, fun _ _ => rfl⟩ : Below _ _ (wr.drewN n)).setCell (Nat.le_refl _) _
theorem S2.poor_step {w wr : World} {t s x : Int} {r p : List Int} {nr m : Nat} {Ar Ap : Option Addr} {cr cp : Nat} (h : S2 w t s r (p ++ [x]) nr (m + 1) Ar Ap cr cp wr) (h64 : I64 (s + x)) (n : Nat) :
    S2 w t (s + x) r p nr m Ar Ap cr cp ((wr.drewN n).setCell ⟨w.heap.size + 1, 0, none⟩ (.slice Ap m cp)) where
  br := h.br.far (by simp) _
  bp := h.bp.set_ 0 _
  rr := (h.rr.drewN n).setCell (by simp) _
  rp := ((Row.init h.rp).drewN n).setCell (by simp) _
  lr := h.lr
  lp := by have := h.lp; simp at this; exact this
  hr := h.hr
  hp := by have := h.hp; omega
  way := by
    have := CM.Way.poor h.way (by simp)
    simpa using this (by simpa using h64)
  be := (h.be.trans ⟨rfl, rfl, rfl, Nat.le_refl _, fun _ _ => rfl⟩ : Below _ _ (wr.drewN n)).setCell (by simp) _
theorem S2.rich_over {w wr : World} {t s x : Int} {r p : List Int} {nr np : Nat} {Ar Ap : Option Addr} {cr cp : Nat} (h : S2 w t s (r ++ [x]) p nr np Ar Ap cr cp wr) (hc : p = [] ∨ s < 0) (ho : ¬ I64 (s + x)) : ¬ I64 t :=
  CM.Way.rich_over h.way (by simp) hc (by simpa using ho)
theorem S2.poor_over {w wr : World} {t s x : Int} {r p : List Int} {nr np : Nat} {Ar Ap : Option Addr} {cr cp : Nat} (h : S2 w t s r (p ++ [x]) nr np Ar Ap cr cp wr) (hc : r = [] ∨ 0 ≤ s) (ho : ¬ I64 (s + x)) : ¬ I64 t :=
  CM.Way.poor_over h.way (by simp) hc (by simpa using ho)

theorem snoc_or {α : Type} (l : List α) : l = [] ∨ ∃ l' x, l = l' ++ [x] := by
  rcases List.eq_nil_or_concat l with h | ⟨a, b, h⟩
  · exact .inl h
  · exact .inr ⟨a, b, by simpa using h⟩

/-- What Sum tells of a sum. -/
def sumN (t : Int) : Int := if I64 t then t else 0
def sumE (t : Int) : Int := if I64 t then 0 else 3
def sumT (t : Int) : Value := .tuple #[.int .i64 (sumN t), .int .i64 (sumE t)]
theorem sumT_yes {t : Int} (h : I64 t) : Value.tuple #[.int .i64 t, .int .i64 0] = sumT t := by unfold sumT sumN sumE; rw [if_pos h, if_pos h]
theorem sumT_no {t : Int} (h : ¬ I64 t) : Value.tuple #[.int .i64 0, .int .i64 3] = sumT t := by unfold sumT sumN sumE; rw [if_neg h, if_neg h]

theorem add_yes (a b : Int) (w : World) (ha : I64 a) (hb : I64 b) (h : I64 (a + b)) :
    Calls Try.prog 33 #[.int .i64 a, .int .i64 b] w fun e w' => e = .returned (.tuple #[.int .i64 (a + b), .int .i64 0]) ∧ w = w' := (add_any a b w ha hb).mono fun _ _ ⟨h1, h2⟩ => ⟨by rw [h1]; unfold addV; rw [if_pos h], h2⟩
theorem add_no (a b : Int) (w : World) (ha : I64 a) (hb : I64 b) (h : ¬ I64 (a + b)) :
    Calls Try.prog 33 #[.int .i64 a, .int .i64 b] w fun e w' => e = .returned (.tuple #[.int .i64 0, .int .i64 3]) ∧ w = w' := (add_any a b w ha hb).mono fun _ _ ⟨h1, h2⟩ => ⟨by rw [h1]; unfold addV; rw [if_neg h], h2⟩

set_option maxHeartbeats 1000000 in
set_option maxRecDepth 100000 in
theorem sum_any (A : Option Addr) (xs : List Int) (c : Nat) (w : World) (hx : ∀ x ∈ xs, I64 x) (hr : Row w 0 A (ints xs)) (hl : xs.length * 8 ≤ 140737488351232) :
    Calls Try.prog 15 #[.slice A xs.length c] w fun e w' => e = .returned (sumT xs.sum) ∧ Below w.heap.size w w' := by
  have HX := Lib.hid hx
  have HR := Lib.hid hr
  clear hx hr
  go_enter Try.func15, Try.ntmps15
  go_wp2
  go_loopw [15] (fun i wr => ∃ (k : Nat) (vr vp : Value), k ≤ xs.length ∧ i = .int .i64 k ∧ S1 w xs k vr vp wr) (fun i _ => xs.length - (intOf i).toNat)
  case atStart => exact ⟨0, _, _, Nat.zero_le _, rfl, S1.start w xs⟩
  case round =>
    obtain ⟨k, vr, vp, hk, rfl, hs⟩ := hrel
    by_cases hlt : k < xs.length
    · have hlen : k < (ints xs).length := by rw [ints_len]; exact hlt
      obtain ⟨ad, hA, _, hc⟩ := (HR.out.below hs.be).at_ hlen
      subst hA
      obtain ⟨x, hxk⟩ : ∃ x, x = xs[k] := ⟨_, rfl⟩
      have hc' : wr.cell? (ad.add k) = some (.int .i64 x) := by rw [hc, hxk]; simp [ints]
      have HK := Lib.hid hxk
      have hcr : wr.cell? ⟨w.heap.size, 0, none⟩ = some vr := hs.br.cell 0
      have hcp : wr.cell? ⟨w.heap.size + 1, 0, none⟩ = some vp := hs.bp.cell 0
      have hbr := CM.rich_len (xs.take k)
      have hbp := CM.poor_len (xs.take k)
      have htk : (xs.take k).length ≤ k := List.length_take_le _ _
      have hsz := hs.bp.lt
      have hb1 : ((CM.poor (xs.take k)).length + 1) * 8 ≤ 140737488355328 := by omega
      have hb2 : (CM.poor (xs.take k)).length + 1 ≤ maxLen := by unfold maxLen; omega
      have hb4 : ((CM.rich (xs.take k)).length + 1) * 8 ≤ 140737488355328 := by omega
      have hb5 : (CM.rich (xs.take k)).length + 1 ≤ maxLen := by unfold maxLen; omega
      have hb3 : w.heap.size + 2 ≤ (wr.alloc (.cells #[.int .i64 x] 2)).heap.size := by simp; omega
      have HS := Lib.hid hs
      clear hs hc hxk hlen
      by_cases hneg : x < 0
      · go_wp2_with (at_builtin; refine wpList_app E_i64 rfl (.tmp 21) (.tmp 23) rfl (v := vp) (n := (CM.poor (xs.take k)).length) (xs := ints (CM.poor (xs.take k))) rfl (HS.out.op.alloc _) ⟨wr.heap.size, 0, none⟩ 1 1 [.int .i64 x] rfl rfl (cell_one_new _ _ _) (one_cell _ _) hb1 hb2 hb3 (by decide) ?_; intro g cap w1 hown1 hg1 hat1; have bp1 : Blk w1 (w.heap.size + 1) 41 #[vp] := (HS.out.bp.alloc _).grown hg1 (own_ne HS.out.op (by omega)); have hcp1 : w1.cell? ⟨w.heap.size + 1, 0, none⟩ = some vp := bp1.cell 0; have hfp1 : w1.frozen? ⟨w.heap.size + 1, 0, none⟩ = false := bp1.frozen 0; have HB1 := Lib.hid bp1; clear bp1; have HO1 := Lib.hid hown1; have HG1 := Lib.hid hg1; have HA1 := Lib.hid hat1; clear hown1 hg1 hat1)
        go_roundw
        case rel => exact ⟨k + 1, vr, _, by omega, by go_num, HS.out.poor hlt HK.out hneg HO1.out HG1.out rfl HA1.out⟩
        case measure => simp [intOf]; omega
      · go_wp2_with (at_builtin; refine wpList_app E_i64 rfl (.tmp 25) (.tmp 27) rfl (v := vr) (n := (CM.rich (xs.take k)).length) (xs := ints (CM.rich (xs.take k))) rfl (HS.out.or.alloc _) ⟨wr.heap.size, 0, none⟩ 1 1 [.int .i64 x] rfl rfl (cell_one_new _ _ _) (one_cell _ _) hb4 hb5 hb3 (by decide) ?_; intro g cap w1 hown1 hg1 hat1; have bp1 : Blk w1 w.heap.size 41 #[vr] := (HS.out.br.alloc _).grown hg1 (own_ne HS.out.or (by omega)); have hcp1 : w1.cell? ⟨w.heap.size, 0, none⟩ = some vr := bp1.cell 0; have hfp1 : w1.frozen? ⟨w.heap.size, 0, none⟩ = false := bp1.frozen 0; have HB1 := Lib.hid bp1; clear bp1; have HO1 := Lib.hid hown1; have HG1 := Lib.hid hg1; have HA1 := Lib.hid hat1; clear hown1 hg1 hat1)
        go_roundw
        case rel => exact ⟨k + 1, _, vp, by omega, by go_num, HS.out.rich hlt HK.out (by omega) HO1.out HG1.out rfl HA1.out⟩
        case measure => simp [intOf]; omega
    · have e : k = xs.length := by omega
      subst e
      obtain ⟨nr0, np0, Ar0, Ap0, cr0, cp0, rfl, rfl, hs2⟩ := S2.start hs HX.out
      have HS := Lib.hid hs2
      have hb1 : nr0 ≤ 17592186044416 := by have := hs2.lr; have := CM.rich_len xs; omega
      have hb2 : np0 ≤ 17592186044416 := by have := hs2.lp; have := CM.poor_len xs; omega
      clear hs hs2 hk hlt hl
      go_wp2
      go_loopg [8] (nr0 + np0) (fun g s8 wr => ∃ (s : Int) (r p : List Int) (nr np : Nat) (Ar Ap : Option Addr) (cr cp : Nat), s8 = .int .i64 s ∧ nr + np = g ∧ nr ≤ 17592186044416 ∧ np ≤ 17592186044416 ∧ S2 w xs.sum s r p nr np Ar Ap cr cp wr)
      case atStart => exact ⟨0, _, _, nr0, np0, _, _, _, _, rfl, rfl, hb1, hb2, HS.out⟩
      case round =>
        obtain ⟨s, r, p, nr, np, Ar, Ap, cr, cp, rfl, hg, hlr, hlp, hs⟩ := hrel
        have HG := Lib.hid hg
        have hcr : wr.cell? ⟨w.heap.size, 0, none⟩ = some (.slice Ar nr cr) := hs.br.cell 0
        have hcp : wr.cell? ⟨w.heap.size + 1, 0, none⟩ = some (.slice Ap np cp) := hs.bp.cell 0
        have hfr := hs.br.frozen 0
        have hfp := hs.bp.frozen 0
        have hr := hs.hr
        have hp := hs.hp
        have H64 := Lib.hid hs.way.s64
        clear hg
        rcases snoc_or r with hr0 | ⟨r', x, hr0⟩ <;> rcases snoc_or p with hp0 | ⟨p', y, hp0⟩ <;> subst hr0 <;> subst hp0
        · obtain rfl : nr = 0 := by simpa using hs.lr
          obtain rfl : np = 0 := by simpa using hs.lp
          obtain ⟨ht, h64⟩ := hs.way.done
          have HB := Lib.hid hs.be
          have HT := Lib.hid ht
          have H6 := Lib.hid h64
          clear hs ht h64
          go_wp2
          go_ret2
          exact ⟨rv ((sumT_yes H6.out).trans (by rw [HT.out])), HB.out⟩
        · obtain rfl : nr = 0 := by simpa using hs.lr
          obtain ⟨m, rfl⟩ : ∃ m, np = m + 1 := ⟨p'.length, by have := hs.lp; simpa using this⟩
          have hm : m = p'.length := by have := hs.lp; simpa using this
          obtain ⟨ad, rfl, hc⟩ := Row.last hs.rp
          rw [← hm] at hc
          have HV := Lib.hid (hs.way.p0 y (by simp)).2
          have HS := Lib.hid hs
          have HM := Lib.hid hm
          clear hs hm
          by_cases h64 : I64 (s + y)
          · have H6 := Lib.hid h64
            clear h64
            go_wp2_with (go_at_call 33; refine (add_yes _ _ _ H64.out HV.out H6.out).mono ?_; rintro e w' ⟨rfl, rfl⟩)
            go_region
            all_goals
              go_wp2
              go_roundg (0 + m)
              case measure => have := HG.out; omega
              case rel => exact ⟨_, _, _, _, m, _, _, _, _, rfl, rfl, by omega, by omega, HS.out.poor_step H6.out _⟩
          · have H6 := Lib.hid h64
            clear h64
            have HT := Lib.hid (HS.out.poor_over (.inl rfl) H6.out)
            have HB := Lib.hid HS.out.be
            go_wp2_with (go_at_call 33; refine (add_no _ _ _ H64.out HV.out H6.out).mono ?_; rintro e w' ⟨rfl, rfl⟩)
            go_ret2
            exact ⟨rv (sumT_no HT.out), HB.out⟩
        · obtain rfl : np = 0 := by simpa using hs.lp
          obtain ⟨m, rfl⟩ : ∃ m, nr = m + 1 := ⟨r'.length, by have := hs.lr; simpa using this⟩
          have hm : m = r'.length := by have := hs.lr; simpa using this
          obtain ⟨ad, rfl, hc⟩ := Row.last hs.rr
          rw [← hm] at hc
          have HV := Lib.hid (hs.way.r0 x (by simp)).2
          have HS := Lib.hid hs
          have HM := Lib.hid hm
          clear hs hm
          by_cases h64 : I64 (s + x)
          · have H6 := Lib.hid h64
            clear h64
            go_wp2_with (go_at_call 33; refine (add_yes _ _ _ H64.out HV.out H6.out).mono ?_; rintro e w' ⟨rfl, rfl⟩)
            go_region
            all_goals
              go_wp2
              go_roundg (m + 0)
              case measure => have := HG.out; omega
              case rel => exact ⟨_, _, _, m, _, _, _, _, _, rfl, rfl, by omega, by omega, HS.out.rich_step H6.out _⟩
          · have H6 := Lib.hid h64
            clear h64
            have HT := Lib.hid (HS.out.rich_over (.inl rfl) H6.out)
            have HB := Lib.hid HS.out.be
            go_wp2_with (go_at_call 33; refine (add_no _ _ _ H64.out HV.out H6.out).mono ?_; rintro e w' ⟨rfl, rfl⟩)
            go_ret2
            exact ⟨rv (sumT_no HT.out), HB.out⟩
        · by_cases hsg : s < 0
          · obtain ⟨m2, rfl⟩ : ∃ m2, np = m2 + 1 := ⟨p'.length, by have := hs.lp; simpa using this⟩
            obtain ⟨m, rfl⟩ : ∃ m, nr = m + 1 := ⟨r'.length, by have := hs.lr; simpa using this⟩
            have hm : m = r'.length := by have := hs.lr; simpa using this
            obtain ⟨ad, rfl, hc⟩ := Row.last hs.rr
            rw [← hm] at hc
            have HV := Lib.hid (hs.way.r0 x (by simp)).2
            have HS := Lib.hid hs
            have HM := Lib.hid hm
            clear hs hm
            by_cases h64 : I64 (s + x)
            · have H6 := Lib.hid h64
              clear h64
              go_wp2_with (go_at_call 33; refine (add_yes _ _ _ H64.out HV.out H6.out).mono ?_; rintro e w' ⟨rfl, rfl⟩)
              go_region
              all_goals
                go_wp2
                go_roundg (m + (m2 + 1))
                case measure => have := HG.out; omega
                case rel => exact ⟨_, _, _, m, _, _, _, _, _, rfl, rfl, by omega, by omega, HS.out.rich_step H6.out _⟩
            · have H6 := Lib.hid h64
              clear h64
              have HT := Lib.hid (HS.out.rich_over (.inr hsg) H6.out)
              have HB := Lib.hid HS.out.be
              go_wp2_with (go_at_call 33; refine (add_no _ _ _ H64.out HV.out H6.out).mono ?_; rintro e w' ⟨rfl, rfl⟩)
              go_ret2
              exact ⟨rv (sumT_no HT.out), HB.out⟩
          · have hsg : 0 ≤ s := by omega
            obtain ⟨m2, rfl⟩ : ∃ m2, nr = m2 + 1 := ⟨r'.length, by have := hs.lr; simpa using this⟩
            obtain ⟨m, rfl⟩ : ∃ m, np = m + 1 := ⟨p'.length, by have := hs.lp; simpa using this⟩
            have hm : m = p'.length := by have := hs.lp; simpa using this
            obtain ⟨ad, rfl, hc⟩ := Row.last hs.rp
            rw [← hm] at hc
            have HV := Lib.hid (hs.way.p0 y (by simp)).2
            have HS := Lib.hid hs
            have HM := Lib.hid hm
            clear hs hm
            by_cases h64 : I64 (s + y)
            · have H6 := Lib.hid h64
              clear h64
              go_wp2_with (go_at_call 33; refine (add_yes _ _ _ H64.out HV.out H6.out).mono ?_; rintro e w' ⟨rfl, rfl⟩)
              go_region
              all_goals
                go_wp2
                go_roundg (m2 + 1 + m)
                case measure => have := HG.out; omega
                case rel => exact ⟨_, _, _, _, m, _, _, _, _, rfl, rfl, by omega, by omega, HS.out.poor_step H6.out _⟩
            · have H6 := Lib.hid h64
              clear h64
              have HT := Lib.hid (HS.out.poor_over (.inr hsg) H6.out)
              have HB := Lib.hid HS.out.be
              go_wp2_with (go_at_call 33; refine (add_no _ _ _ H64.out HV.out H6.out).mono ?_; rintro e w' ⟨rfl, rfl⟩)
              go_ret2
              exact ⟨rv (sumT_no HT.out), HB.out⟩
end Go.Proofs.Ytbdhbongaikphaa.Cents
