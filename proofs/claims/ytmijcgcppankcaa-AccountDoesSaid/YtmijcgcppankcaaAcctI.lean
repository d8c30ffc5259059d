/- The walk of Reverse. -/
import Derived.Test.YtmijcgcppankcaaAcctF
namespace Go.Proofs.Ytmijcgcppankcaa.AC
open Go.RowKit Go.Proofs.Ytmijcgcppankcaa.Cents Go.Proofs.Ytmijcgcppankcaa.MV Go.Proofs.Ytmijcgcppankcaa.Net Go.Proofs.Ytmijcgcppankcaa.CO
open Go.Maps (Keyed)
set_option linter.unusedVariables false
set_option linter.unusedSimpArgs false

def negp (p : Post) : Post := ⟨p.acc, p.ct, 0 - p.amt⟩
def negP (ps : List Post) : List Post := ps.map negp
def ev0 : EV := ⟨⟨0, [], false⟩, .slice none 0 0⟩
def turn (xs : List EV) (i : Nat) : List EV := xs.set i ⟨{ (xs.getD i ev0).e with turned := true }, (xs.getD i ev0).v⟩
open Classical in
noncomputable def revE (per : Nat) (opn : Int) (xs : List EV) (at_ x : Int) : Int :=
  if ¬ hasP xs.length at_ then 5 else if (xs.getD at_.toNat ev0).e.turned = true then 6 else if ∃ p ∈ (xs.getD at_.toNat ev0).e.ps, ¬ I64 (0 - p.amt) then 3 else postE per opn xs x (negP (xs.getD at_.toNat ev0).e.ps)
def RevRet (b0 L per : Nat) (opn : Int) (xs : List EV) (E : Option Addr) (c M : Nat) (f : KF) (at_ x : Int) (w : World) (e : Ending) (w' : World) : Prop :=
  (revE per opn xs at_ x ≠ 0 ∧ e = .returned (.tuple #[.int .i64 0, .int .i64 (revE per opn xs at_ x)]) ∧ Below w.heap.size w w') ∨
  (revE per opn xs at_ x = 0 ∧ e = .returned (.tuple #[.int .i64 (xs.length : Int), .int .i64 0]) ∧ ∃ v E' c' f', LedW b0 L per opn (turn xs at_.toNat ++ [⟨⟨x.toNat, negP (xs.getD at_.toNat ev0).e.ps, true⟩, v⟩]) E' c' M f' w' ∧ Fr (LS L M E xs.length c) w w' ∧ ∀ g, (Value.slice E' (xs.length + 1) c').ownBlock = some g → (Value.slice E xs.length c).ownBlock = some g ∨ w.heap.size ≤ g)
/-- The cells of an entry. -/
theorem LedW.entry {b0 L per M ce : Nat} {opn : Int} {xs : List EV} {E : Option Addr} {f : KF} {w : World} (hL : LedW b0 L per opn xs E ce M f w) {i : Nat} (hi : i < xs.length) :
    ∃ g, E = some ⟨g, 0, none⟩ ∧ w.cell? ⟨g, i * 3, none⟩ = some (.int .i64 ((xs.getD i ev0).e.q : Int)) ∧ w.cell? ⟨g, i * 3 + 1, none⟩ = some (xs.getD i ev0).v ∧ w.cell? ⟨g, i * 3 + 2, none⟩ = some (.bool (xs.getD i ev0).e.turned) ∧ w.frozen? ⟨g, i * 3 + 2, none⟩ = false := by
  have hown := hL.own
  have hev : xs.getD i ev0 = xs[i] := by simp [List.getD_eq_getElem?_getD, hi]
  obtain ⟨g, cap, hv, _, _⟩ := hown.form (by omega)
  injection hv with h1 _ h3
  subst h1; subst h3
  have hrow := Row.of_own hown (by decide)
  obtain ⟨ad, had, _, hc⟩ := hrow (by rw [flat_len evc_len]; omega)
  cases had
  have cellj : ∀ j, j < 3 → ∀ u, (evc xs[i])[j]? = some u → w.cell? ⟨g, i * 3 + j, none⟩ = some u := fun j hj u hu => by
    have := hc (i * 3 + j) u ((flat_at evc_len hi j hj).trans hu)
    rwa [addr_add, Nat.zero_add] at this
  rw [hev]
  refine ⟨g, rfl, cellj 0 (by omega) _ rfl, cellj 1 (by omega) _ rfl, cellj 2 (by omega) _ rfl, ?_⟩
  rcases hown.2 with ⟨h2, _⟩ | ⟨g', cap', cur, hv, hg, hh, _⟩
  · cases h2
  · injection hv with e1 _ _
    injection e1 with e1
    injection e1 with e1
    subst e1
    exact (show Blk w g _ cur from hh).frozen _
theorem own_set3 {w : World} {base e g n cap s : Nat} {xs : List Value} (h : w.ownsRow base e s (.slice (some ⟨g, 0, none⟩) n cap) n xs) (j : Nat) (u : Value) :
    (w.setCell ⟨g, j, none⟩ u).ownsRow base e s (.slice (some ⟨g, 0, none⟩) n cap) n (xs.set j u) := by
  obtain ⟨h1, h2⟩ := h
  refine ⟨by simpa using h1, ?_⟩
  rcases h2 with ⟨h2, _⟩ | ⟨g', cap', cur, hv, hg, hh, hn, hm, hs, ht⟩
  · cases h2
  · injection hv with e1 _ e3
    injection e1 with e1
    injection e1 with e1
    subst e1; subst e3
    refine .inr ⟨g, cap, cur.setIfInBounds j u, rfl, hg, (show Blk w g e cur from hh).set_ j u, hn, hm, by simpa using hs, ?_⟩
    rw [Array.toList_setIfInBounds, List.take_set, ht]
theorem evc_set (xs : List EV) (i : Nat) (hi : i < xs.length) : (xs.flatMap evc).set (i * 3 + 2) (.bool true) = (turn xs i).flatMap evc := by
  have key : ∀ (l : List EV) (i : Nat) (hi : i < l.length), (l.flatMap evc).set (i * 3 + 2) (.bool true) = (l.set i ⟨{ (l.getD i ev0).e with turned := true }, (l.getD i ev0).v⟩).flatMap evc := by
    intro l
    induction l with
    | nil => intro i hi; simp at hi
    | cons x l ih =>
      intro i hi
      cases i with
      | zero => simp [evc]
      | succ i =>
        have := ih i (by simpa using hi)
        rw [List.flatMap_cons, List.set_append_right _ _ (by rw [evc_len]; omega), evc_len, show (i + 1) * 3 + 2 - 3 = i * 3 + 2 by omega, this]
        simp
  exact key xs i hi
theorem ents_turn (xs : List EV) (i : Nat) : ∀ per a c, rowL (ents (turn xs i)) per a c = rowL (ents xs) per a c := fun per a c => by
  have key : ∀ q, movL (ents (turn xs i)) a c q = movL (ents xs) a c q := fun q => by
    unfold movL ents turn
    rw [List.map_map, List.map_map]
    congr 1
    apply List.ext_getElem
    · simp
    · intro j h1 h2
      simp only [List.getElem_map, Function.comp, List.getElem_set]
      by_cases h : i = j
      · subst h
        have hj : i < xs.length := by simpa using h2
        rw [if_pos rfl]
        simp [List.getD_eq_getElem?_getD, hj]
      · rw [if_neg h]
  unfold rowL
  exact List.map_congr_left fun q _ => key q
theorem turn_len (xs : List EV) (i : Nat) : (turn xs i).length = xs.length := by simp [turn]
theorem turn_mem {xs : List EV} {i : Nat} {x : EV} (h : x ∈ turn xs i) (hi : i < xs.length) : ∃ y ∈ xs, x.v = y.v ∧ x.e.ps = y.e.ps ∧ x.e.q = y.e.q := by
  unfold turn at h
  rcases List.mem_or_eq_of_mem_set h with h | h
  · exact ⟨x, h, rfl, rfl, rfl⟩
  · refine ⟨xs[i], List.getElem_mem hi, ?_⟩
    rw [h]
    simp [List.getD_eq_getElem?_getD, hi]
/-- One entry's mark is set. -/
theorem led_turn {b0 L per M ce g i : Nat} {opn : Int} {xs : List EV} {f : KF} {w : World} (hL : LedW b0 L per opn xs (some ⟨g, 0, none⟩) ce M f w) (hi : i < xs.length) : LedW b0 L per opn (turn xs i) (some ⟨g, 0, none⟩) ce M f (w.setCell ⟨g, i * 3 + 2, none⟩ (.bool true)) := by
  have hgM : M ≠ g := fun e => by
    obtain ⟨cs, t2, hh⟩ := own_cells hL.own g rfl
    exact hL.map.not_cells hh e.symm
  have hgL : L ≠ g := fun e => own_blkne hL.own hL.led (by decide) (by rw [e]; rfl)
  refine ⟨?_, ?_, fun a c v ha hc hv => ?_, fun a c ha hc hv => ?_, hL.keys, ?_, fun x hx => ?_, hL.hL, hL.hM⟩
  · rw [turn_len]
    exact hL.led.far hgL _
  · rw [turn_len]
    exact hL.map.setCell hgM _
  · obtain ⟨g', e, hg⟩ := hL.row a c v ha hc hv
    rw [ents_turn]
    exact ⟨g', e, hg.far (fun e2 => own_blkne hL.own hg (by decide) (by rw [e2]; rfl)) _⟩
  · rw [ents_turn]; exact hL.no a c ha hc hv
  · rw [turn_len, ← evc_set xs i hi]
    exact own_set3 hL.own _ _
  · obtain ⟨y, hy, h1, h2, _⟩ := turn_mem hx hi
    rw [h1, h2]
    exact ownsRow_setCell_other (hL.pst y hy) (fun e => own_apart (hL.pst y hy) hL.own (by decide) g e rfl) _
theorem ledg_turn {per i : Nat} {opn : Int} {xs : List EV} (h : LedG per opn xs) (hi : i < xs.length) : LedG per opn (turn xs i) := by
  refine ⟨h.per1, h.per2, h.o0, h.o1, by rw [turn_len]; exact h.len, fun x hx => ?_, fun a c ha hc q hq => ?_⟩
  · obtain ⟨y, hy, h1, h2, h3⟩ := turn_mem hx hi
    rw [h2, h3]
    exact h.ok y hy
  · rw [← rowL_get (es := ents (turn xs i)) (a := a) (c := c) hq, ents_turn, rowL_get hq]
    exact h.fit a c ha hc q hq
section
open Go.RowKit Go.Proofs.Ytmijcgcppankcaa.Cents Go.Proofs.Ytmijcgcppankcaa.MV Go.Proofs.Ytmijcgcppankcaa.Net Go.Proofs.Ytmijcgcppankcaa.CO Go.Proofs.Ytmijcgcppankcaa.Exact
open Go.Maps (Keyed)
set_option linter.unusedVariables false
set_option linter.unusedSimpArgs false

theorem negP_snoc (l : List Post) (p : Post) : negP (l ++ [p]) = negP l ++ [negp p] := by simp [negP]
theorem negP_len (l : List Post) : (negP l).length = l.length := by simp [negP]
theorem turn_two (xs : List EV) (y : EV) (i : Nat) (hi : i < xs.length) : turn (turn (xs ++ [y]) i) xs.length = turn xs i ++ [⟨{ y.e with turned := true }, y.v⟩] := by
  have h1 : turn (xs ++ [y]) i = turn xs i ++ [y] := by
    unfold turn
    rw [List.getD_eq_getElem?_getD, List.getElem?_append_left hi, ← List.getD_eq_getElem?_getD, List.set_append_left _ _ hi]
  rw [h1]
  have h2 : xs.length = (turn xs i).length := (turn_len xs i).symm
  rw [h2]
  generalize turn xs i = l
  unfold turn
  rw [List.getD_eq_getElem?_getD, List.getElem?_append_right (Nat.le_refl _), Nat.sub_self, List.set_append_right _ _ (Nat.le_refl _), Nat.sub_self]
  rfl
section
variable {b0 L per M ce : Nat} {opn : Int} {xs : List EV} {E : Option Addr} {f : KF} {w : World}
theorem reverse_no (hL : LedW b0 L per opn xs E ce M f w) (at_ x : Int) (h : ¬ hasP xs.length at_) :
    Calls Try.prog 27 #[.pointer (some ⟨L, 0, none⟩), .int .i64 at_, .int .i64 x] w (RevRet b0 L per opn xs E ce M f at_ x w) := by
  have HE := Lib.hid (show revE per opn xs at_ x = 5 by unfold revE; rw [if_pos h])
  have c2 : w.cell? ⟨L, 2, none⟩ = some (.slice E xs.length ce) := hL.led.cell 2
  have HK := Lib.hid (known_is L xs.length ce E at_ w c2 false (by simpa using h))
  clear hL h c2
  go_enter Try.func27, Try.ntmps27
  go_wp2_with fail
  refine HK.out.mono ?_
  rintro e w1 ⟨rfl, rfl⟩
  go_wp2_with fail
  go_ret2
  exact .inl ⟨by rw [HE.out]; decide, by rw [HE.out]; rfl, Below.refl _ _⟩
theorem reverse_twice (hL : LedW b0 L per opn xs E ce M f w) (i : Nat) (x : Int) (hi : i < xs.length) (ht : (xs.getD i ev0).e.turned = true) :
    Calls Try.prog 27 #[.pointer (some ⟨L, 0, none⟩), .int .i64 (i : Int), .int .i64 x] w (RevRet b0 L per opn xs E ce M f (i : Int) x w) := by
  have hh : hasP xs.length (i : Int) := ⟨Int.natCast_nonneg _, by omega⟩
  have HE := Lib.hid (show revE per opn xs (i : Int) x = 6 by unfold revE; rw [if_neg (fun h => h hh), Int.toNat_natCast, if_pos ht])
  have c2 : w.cell? ⟨L, 2, none⟩ = some (.slice E xs.length ce) := hL.led.cell 2
  have HK := Lib.hid (known_is L xs.length ce E (i : Int) w c2 true (by simpa using hh))
  obtain ⟨g, rfl, e0, e1, e2, e3⟩ := hL.entry hi
  rw [ht] at e2
  have g0 : (0 : Int) ≤ (i : Int) := Int.natCast_nonneg _
  obtain ⟨n, hn⟩ : ∃ n, xs.length = n := ⟨_, rfl⟩
  rw [hn] at c2 hi
  have g1 : (i : Int) < (n : Int) := by omega
  clear hL hh ht hn e0 e1 e3
  go_enter Try.func27, Try.ntmps27
  go_wp2_with fail
  refine HK.out.mono ?_
  rintro e w1 ⟨rfl, rfl⟩
  go_wp2_with fail
  go_ret2
  exact .inl ⟨by rw [HE.out]; decide, by rw [HE.out]; rfl, Below.refl _ _⟩
set_option maxHeartbeats 4000000 in
set_option maxRecDepth 100000 in
theorem reverse_go (hL : LedW b0 L per opn xs E ce M f w) (hG : LedG per opn xs) (i : Nat) (x : Int) (hi : i < xs.length) (ht : (xs.getD i ev0).e.turned = false) (hb0 : b0 ≤ w.heap.size) :
    Calls Try.prog 27 #[.pointer (some ⟨L, 0, none⟩), .int .i64 (i : Int), .int .i64 x] w (RevRet b0 L per opn xs E ce M f (i : Int) x w) := by
  have hh : hasP xs.length (i : Int) := ⟨Int.natCast_nonneg _, by omega⟩
  obtain ⟨y, hy⟩ : ∃ y, xs.getD i ev0 = y := ⟨_, rfl⟩
  have hym : y ∈ xs := by rw [← hy]; simp [List.getD_eq_getElem?_getD, hi]
  have HE := Lib.hid (show revE per opn xs (i : Int) x = if ∃ p ∈ y.e.ps, ¬ I64 (0 - p.amt) then 3 else postE per opn xs x (negP y.e.ps) by unfold revE; rw [if_neg (fun h => h hh), Int.toNat_natCast, if_neg (by rw [ht]; decide), hy])
  have c2 : w.cell? ⟨L, 2, none⟩ = some (.slice E xs.length ce) := hL.led.cell 2
  have HK := Lib.hid (known_is L xs.length ce E (i : Int) w c2 true (by simpa using hh))
  obtain ⟨g, rfl, e0, e1, e2, e3⟩ := hL.entry hi
  rw [ht] at e2
  rw [hy] at e1
  obtain ⟨_, hp1, hp32, hpI⟩ := hG.ok y hym
  have hown := hL.pst y hym
  obtain ⟨P, cp, hv, hcp⟩ := own_slice hown
  rw [hv] at e1 hown
  have HRP := Lib.hid ((Row.of_own hown (by decide)).weak (Nat.zero_le _))
  have HPI := Lib.hid hpI
  have HL := Lib.hid hL
  have HG := Lib.hid hG
  have HY := Lib.hid hy
  have HI := Lib.hid hi
  have HT := Lib.hid ht
  have g0 : (0 : Int) ≤ (i : Int) := Int.natCast_nonneg _
  obtain ⟨m, hm⟩ : ∃ m, xs.length = m := ⟨_, rfl⟩
  obtain ⟨n, hn⟩ : ∃ n, y.e.ps.length = n := ⟨_, rfl⟩
  have HM := Lib.hid hm
  have HN := Lib.hid hn
  have hlen := hG.len
  rw [hm] at c2 hi hlen
  rw [hn] at hp1 hp32 e1
  obtain ⟨ps, hps⟩ : ∃ ps, y.e.ps = ps := ⟨_, rfl⟩
  rw [hps] at HRP HPI HE HN
  have HPS := Lib.hid hps
  have g1 : (i : Int) < (m : Int) := by omega
  clear hL hG hh ht hm hn hpI hown hy hym hv hcp hps e0 e3
  go_enter Try.func27, Try.ntmps27
  go_wp2_with fail
  refine HK.out.mono ?_
  rintro e w1 ⟨rfl, rfl⟩
  go_wp2_with fail
  go_loopw [8, 38] (fun v ii wr => ∃ (k : Nat) (B : Option Addr) (cb : Nat), v = .slice B k cb ∧ ii = .int .i64 (k : Int) ∧ k ≤ n ∧ (∀ p ∈ ps.take k, I64 (0 - p.amt)) ∧ wr.ownsRow w.heap.size 48 3 (.slice B k cb) k (cells (negP (ps.take k))) ∧ Below w.heap.size w wr) (fun _ ii _ => n - (intOf ii).toNat)
  case atStart => exact ⟨0, none, 0, rfl, rfl, by omega, by simp, World.ownsRow_nil _ _ _ _, Below.refl _ _⟩
  case round =>
    obtain ⟨k, B, cb, rfl, rfl, hk, hok, hown, hbe⟩ := hrel
    have HOK := Lib.hid hok
    have HO := Lib.hid hown
    have HB := Lib.hid hbe
    clear hok hown hbe
    have g2 : (0 : Int) ≤ (k : Int) := Int.natCast_nonneg _
    by_cases hkn : k < n
    · have hkl : k < ps.length := by rw [HN.out]; exact hkn
      obtain ⟨ad, rfl, _, c0, c1, c3⟩ := Net.Row.post (HRP.out.below HB.out) hkl
      have hpI := HPI.out _ (List.getElem_mem hkl)
      have htk := take_end hkl
      have hmem : ps[k] ∈ ps := List.getElem_mem hkl
      obtain ⟨p, hp⟩ : ∃ p, p = ps[k] := ⟨_, rfl⟩
      rw [← hp] at c0 c1 c3 hpI htk hmem
      have HTK := Lib.hid htk
      have HMEM := Lib.hid hmem
      obtain ⟨pa, pc, px⟩ := p
      dsimp only at c0 c1 c3
      have g3 : (k : Int) < (n : Int) := by omega
      have hxI := hpI.1.2.2
      dsimp only at hxI
      have hb1' : (k + 1) * 24 ≤ 140737488355328 := by omega
      have hb2' : k + 1 ≤ maxLen := by unfold maxLen; omega
      have hsz : w.heap.size ≤ wr.heap.size := HB.out.size
      have hbk := Blk.new wr 48 #[.int .i64 pa, .int .i64 pc, .int .i64 px]
      have HOA := Lib.hid (HO.out.alloc (.cells #[.int .i64 pa, .int .i64 pc, .int .i64 px] 48))
      have HBA := Lib.hid (HB.out.alloc HB.out.size (.cells #[.int .i64 pa, .int .i64 pc, .int .i64 px] 48))
      by_cases hsI : I64 (0 - px)
      · have HLS := Lib.hid (fun W => less_is 0 px W ⟨by decide, by decide⟩ hxI (0 - px) 0 (by unfold fitN fitE; rw [if_pos hsI, if_pos hsI]; exact ⟨rfl, rfl⟩))
        have HSI := Lib.hid hsI
        obtain ⟨z, hz⟩ : ∃ z, 0 - px = z := ⟨_, rfl⟩
        rw [hz] at HLS
        have HZ := Lib.hid hz
        clear hsI hpI hxI htk hp hkl hmem hz
        go_wp2_with fail
        refine (HLS.out _).mono ?_
        rintro e w5 ⟨rfl, rfl⟩
        go_wp2_with (at_builtin; refine wpList_app E_post rfl (.tmp 51) (.tmp 58) rfl rfl (HOA.out.alloc _) ⟨wr.heap.size + 1, 0, none⟩ 1 1 [.int .i64 pa, .int .i64 pc, .int .i64 z] rfl rfl (by
            have h1 := World.news_of_block (cs := #[Value.int IntKind.i64 pa, .int .i64 pc, .int .i64 z]) (t := 48) (fr := (0, 0)) (heap_alloc_new (wr.alloc (.cells #[.int .i64 pa, .int .i64 pc, .int .i64 px] 48)) (.cells #[.int .i64 pa, .int .i64 pc, .int .i64 z] 48))
            simpa using h1) (by simp [Value.oneCell']) hb1' hb2' (by simp; omega) (by decide) ?_; intro g5 cap5 w6 hown6 hg6 hat6; have HO6 := Lib.hid hown6; have HB6 := Lib.hid ((HBA.out.alloc HBA.out.size (.cells #[.int .i64 pa, .int .i64 pc, .int .i64 z] 48)).grown hg6 (by simp; omega) (fun j hj => (HO.out.lt j hj).1)); clear hown6 hg6 hat6)
        go_roundw
        case rel =>
          refine ⟨k + 1, _, _, rfl, by go_num, by omega, fun p hp => ?_, ?_, HB6.out⟩
          · rw [HTK.out] at hp
            rcases List.mem_append.1 hp with h | h
            · exact HOK.out p h
            · rw [List.mem_singleton.1 h]; exact HSI.out
          · rw [HTK.out, negP_snoc, cells_append, cells_one]
            have := HO6.out
            rw [← HZ.out] at this
            exact this
        case measure => simp only [intOf]; omega
      · have HLS := Lib.hid (fun W => less_is 0 px W ⟨by decide, by decide⟩ hxI 0 3 (by unfold fitN fitE; rw [if_neg hsI, if_neg hsI]; exact ⟨rfl, rfl⟩))
        have HE3 := Lib.hid (show revE per opn xs (i : Int) x = 3 by rw [HE.out, if_pos ⟨_, HMEM.out, hsI⟩])
        clear hsI hpI hxI htk hp hkl hmem
        go_wp2_with fail
        refine (HLS.out _).mono ?_
        rintro e w5 ⟨rfl, rfl⟩
        go_wp2_with fail
        go_ret2
        exact .inl ⟨by rw [HE3.out]; decide, by rw [HE3.out]; rfl, HBA.out⟩
    · obtain rfl : k = n := by omega
      rw [List.take_of_length_le (show ps.length ≤ k by rw [HN.out]; exact Nat.le_refl _)] at HO HOK
      have hrow : Row wr 0 B (cells (negP ps)) := (Row.of_own HO.out (by decide)).weak (Nat.zero_le _)
      have hpost := post_any b0 L per M ce opn x xs (some ⟨g, 0, none⟩) B f (negP ps) cb wr (HL.out.later HB.out) HG.out hrow (by rw [negP_len, HN.out]; omega) (fun p hp => by
        unfold negP at hp
        obtain ⟨p0, hp0, rfl⟩ := List.mem_map.1 hp
        have h1 := (HPI.out p0 hp0).1
        exact ⟨h1.1, h1.2.1, HOK.out p0 hp0⟩) (by have := HB.out.size; omega)
      rw [negP_len, HN.out] at hpost
      have HPOST := Lib.hid hpost
      have HE4 := Lib.hid (show revE per opn xs (i : Int) x = postE per opn xs x (negP ps) by rw [HE.out, if_neg (fun ⟨p, hp, h⟩ => h (HOK.out p hp))])
      clear hrow hpost
      go_wp2_with fail
      refine HPOST.out.mono ?_
      rintro e w8 (⟨hne, rfl, hb8⟩ | ⟨he0, rfl, v, E', c', f', hL8, hF8, hE8⟩)
      · have hne2 : (postE per opn xs x (negP ps) == 0) = false := by simpa using hne
        have HNE := Lib.hid hne
        have HB8 := Lib.hid (HB.out.trans (hb8.mono HB.out.size))
        clear hb8
        obtain ⟨pe, hpe⟩ : ∃ pe, postE per opn xs x (negP ps) = pe := ⟨_, rfl⟩
        rw [hpe] at hne hne2 HNE HE4 ⊢
        clear hpe
        go_wp2_with fail
        go_ret2
        exact .inl ⟨by rw [HE4.out]; exact HNE.out, by rw [HE4.out]; rfl, HB8.out⟩
      · have hes : (xs ++ [(⟨⟨x.toNat, negP ps, false⟩, v⟩ : EV)]).length = m + 1 := by simp [HM.out]
        obtain ⟨g', rfl, _, _, d2, d3⟩ := hL8.entry (i := i) (by rw [hes]; omega)
        obtain ⟨g'', hg2, _, _, d4, d5⟩ := hL8.entry (i := m) (by rw [hes]; omega)
        injection hg2 with hg2
        injection hg2 with hg2
        subst hg2
        have d6 : ((xs ++ [(⟨⟨x.toNat, negP ps, false⟩, v⟩ : EV)]).getD i ev0) = xs.getD i ev0 := by
          rw [List.getD_eq_getElem?_getD, List.getElem?_append_left HI.out, ← List.getD_eq_getElem?_getD]
        have d7 : ((xs ++ [(⟨⟨x.toNat, negP ps, false⟩, v⟩ : EV)]).getD m ev0) = ⟨⟨x.toNat, negP ps, false⟩, v⟩ := by
          rw [List.getD_eq_getElem?_getD, ← HM.out, List.getElem?_append_right (Nat.le_refl _), Nat.sub_self]
          rfl
        rw [d6, HT.out] at d2
        rw [d7] at d4
        dsimp only at d4
        have l2 : w8.cell? ⟨L, 2, none⟩ = some (.slice (some ⟨g', 0, none⟩) (m + 1) c') := by
          have := hL8.led.cell 2
          rw [hes] at this
          exact this
        have hLg : L ≠ g' := fun e => own_blkne hL8.own hL8.led (by decide) (by rw [e]; rfl)
        have hL9 := led_turn hL8 (i := i) (by rw [hes]; omega)
        have hL10 := led_turn hL9 (i := m) (by rw [turn_len, hes]; omega)
        have htt := turn_two xs ⟨⟨x.toNat, negP ps, false⟩, v⟩ i HI.out
        rw [HM.out] at htt
        rw [htt] at hL10
        have HL10 := Lib.hid hL10
        have HE5 := Lib.hid (HE4.out.trans he0)
        have HF8 := Lib.hid hF8
        have HE8 := Lib.hid hE8
        have hne1 : ¬ i * 3 + 2 = m * 3 + 2 := by omega
        have hne2 : ¬ m * 3 + 2 = i * 3 + 2 := by omega
        have hne3 : ¬ i = m := by omega
        have hne4 : ¬ m = i := by omega
        have g4 : (0 : Int) ≤ (m : Int) := Int.natCast_nonneg _
        have g5 : (i : Int) < (m : Int) + 1 := by omega
        have g6 : (m : Int) < (m : Int) + 1 := by omega
        have hLg2 : ¬ g' = L := fun e => hLg e.symm
        rw [HM.out]
        clear hL8 hL9 hL10 htt hF8 hE8 he0 d6 d7 hes
        go_wp2_with fail
        go_region_held3 (fun W => W.cell? ⟨L, 2, none⟩ = some (.slice (some ⟨g', 0, none⟩) (m + 1) c'))
          (first | (go_keep; done) | (rw [World.cell?_setCell_far _ _ _ _ (by simpa using hLg)]; assumption))
          (fail)
        all_goals
          go_wp2_with fail
          go_ret2
          refine .inr ⟨HE5.out, by rw [HM.out]; rfl, v, some ⟨g', 0, none⟩, c', f', ?_, ?_, ?_⟩
          · rw [Int.toNat_natCast, HY.out, HPS.out]
            first | exact HL10.out | exact HL10.out.later (Below.drew (Below.refl _ _))
          · have hb := HB.out
            have hf := (Fr.later (S := LS L M (some ⟨g, 0, none⟩) xs.length ce) hb).trans HF8.out
            have hs : ∀ j : Nat, j < w.heap.size → (⟨g', j, none⟩ : Addr).block = g' := fun _ _ => rfl
            have hgs : g' < w.heap.size → LS L M (some ⟨g, 0, none⟩) xs.length ce g' := fun h => by
              rcases HE8.out g' rfl with q | q
              · exact .inr (.inr q)
              · have := hb.size
                omega
            first | exact (hf.setCell (p := ⟨g', i * 3 + 2, none⟩) hgs _).setCell (p := ⟨g', m * 3 + 2, none⟩) hgs _ | exact ((hf.setCell (p := ⟨g', i * 3 + 2, none⟩) hgs _).setCell (p := ⟨g', m * 3 + 2, none⟩) hgs _).drew
          · intro g3 hg3
            rcases HE8.out g3 hg3 with q | q
            · exact .inl q
            · exact .inr (Nat.le_trans HB.out.size q)
end
end
section
open Go.RowKit Go.Proofs.Ytmijcgcppankcaa.Cents Go.Proofs.Ytmijcgcppankcaa.MV Go.Proofs.Ytmijcgcppankcaa.Net Go.Proofs.Ytmijcgcppankcaa.CO
open Go.Maps (Keyed)
set_option linter.unusedVariables false
set_option linter.unusedSimpArgs false

theorem ints_one' (l : List Int) : ∀ u ∈ ints l, u.oneCell' = true := fun u hu => by
  obtain ⟨x, _, rfl⟩ := List.mem_map.1 hu
  rfl
def sumF (n : Nat) (g : Nat → Int) : Int := ((List.range n).map g).sum
theorem sumF_succ (n : Nat) (g : Nat → Int) : sumF (n + 1) g = sumF n g + g n := by simp [sumF, List.range_succ]
theorem sumF_same {n : Nat} {g g' : Nat → Int} (h : ∀ i, i < n → g i = g' i) : sumF n g = sumF n g' := by
  induction n with
  | zero => rfl
  | succ n ih => rw [sumF_succ, sumF_succ, ih (fun i hi => h i (by omega)), h n (by omega)]
theorem sumF_change {n : Nat} {g g' : Nat → Int} {x : Nat} (hx : x < n) (h : ∀ i, i < n → i ≠ x → g i = g' i) : sumF n g' = sumF n g - g x + g' x := by
  induction n with
  | zero => omega
  | succ n ih =>
    rw [sumF_succ, sumF_succ]
    by_cases e : x = n
    · subst e
      rw [sumF_same (g := g) (g' := g') (fun i hi => h i (by omega) (by omega))]
      omega
    · rw [ih (by omega) (fun i hi hne => h i (by omega) hne), h n (by omega) (by omega)]
      omega
theorem sumF_zero (n : Nat) : sumF n (fun _ => 0) = 0 := by
  induction n with
  | zero => rfl
  | succ n ih => rw [sumF_succ, ih]; rfl
theorem sumF_add (n : Nat) (g h : Nat → Int) : sumF n (fun i => g i + h i) = sumF n g + sumF n h := by
  induction n with
  | zero => rfl
  | succ n ih => rw [sumF_succ, sumF_succ, sumF_succ, ih]; omega
def balL (per : Nat) (es : List Ent) (a c : Int) (q : Nat) : Int := ((rowL es per a c).take (q + 1)).sum
def totS (per : Nat) (es : List Ent) (a : Int) (q : Nat) : Int := sumF 40 fun c => balL per es a (c : Int) q
def totOk (per : Nat) (a x : Int) : Prop := 0 ≤ a ∧ a < 4 ∧ hasP per x
instance (per : Nat) (a x : Int) : Decidable (totOk per a x) := by unfold totOk; infer_instance
def totN (per : Nat) (es : List Ent) (a x : Int) : Int := if totOk per a x then sumN (totS per es a x.toNat) else 0
def totE (per : Nat) (es : List Ent) (a x : Int) : Int := if totOk per a x then sumE (totS per es a x.toNat) else 1
open Classical in
noncomputable def doneF (per : Nat) (es : List Ent) (a : Int) (q : Nat) (f : KF) (left : Lit → Bool) : Nat → Int := fun c => if f (plit a (c : Int)) = none ∨ left (plit a (c : Int)) = true then 0 else balL per es a (c : Int) q
theorem done_hit {per : Nat} {es : List Ent} {a : Int} {q k : Nat} {f : KF} {left : Lit → Bool} (ha : I64 a) (hk : k < 40) (hf : f (plit a (k : Int)) ≠ none) (hl : left (plit a (k : Int)) = true) :
    sumF 40 (doneF per es a q f (fun z => left z && !z.sameKey (plit a (k : Int)))) = sumF 40 (doneF per es a q f left) + balL per es a (k : Int) q := by
  have hkI : ∀ c : Nat, c < 40 → I64 (c : Int) := fun c hc => by unfold I64; omega
  rw [sumF_change (g := doneF per es a q f left) (x := k) hk (fun c hc hne => ?_)]
  · have h1 : doneF per es a q f left k = 0 := by unfold doneF; rw [if_pos (.inr hl)]
    have h2 : doneF per es a q f (fun z => left z && !z.sameKey (plit a (k : Int))) k = balL per es a (k : Int) q := by
      unfold doneF
      rw [if_neg]
      intro h
      rcases h with h | h
      · exact hf h
      · have h5 := struck_same (left := left) (keyed_pl.key (pkey ha (hkI k hk)))
        exact absurd (h5.symm.trans h) (by decide)
    rw [h1, h2]; omega
  · have hne2 : plit a (c : Int) ≠ plit a (k : Int) := fun e => by
      have := (plit_inj ha (hkI c hc) ha (hkI k hk) e).2
      omega
    unfold doneF
    rw [show (fun z : Lit => left z && !z.sameKey (plit a (k : Int))) (plit a (c : Int)) = left (plit a (c : Int)) from struck_other hne2]
theorem done_miss {per : Nat} {es : List Ent} {a a2 k : Int} {q : Nat} {f : KF} {left : Lit → Bool} (ha : I64 a) (ha2 : I64 a2) (hk : I64 k) (hne : a2 ≠ a) :
    sumF 40 (doneF per es a q f (fun z => left z && !z.sameKey (plit a2 k))) = sumF 40 (doneF per es a q f left) := by
  refine sumF_same fun c hc => ?_
  have hne2 : plit a (c : Int) ≠ plit a2 k := fun e => hne (plit_inj ha (by unfold I64; omega) ha2 hk e).1.symm
  unfold doneF
  rw [show (fun z : Lit => left z && !z.sameKey (plit a2 k)) (plit a (c : Int)) = left (plit a (c : Int)) from struck_other hne2]
section
variable {b0 L per M ce : Nat} {opn : Int} {xs : List EV} {E : Option Addr} {f : KF} {w : World}
theorem reverse_any (hL : LedW b0 L per opn xs E ce M f w) (hG : LedG per opn xs) (at_ x : Int) (hb0 : b0 ≤ w.heap.size) :
    Calls Try.prog 27 #[.pointer (some ⟨L, 0, none⟩), .int .i64 at_, .int .i64 x] w (RevRet b0 L per opn xs E ce M f at_ x w) := by
  by_cases h : hasP xs.length at_
  · obtain ⟨i, rfl⟩ : ∃ i : Nat, at_ = (i : Int) := ⟨at_.toNat, by unfold hasP at h; omega⟩
    have hi : i < xs.length := by unfold hasP at h; omega
    cases ht : (xs.getD i ev0).e.turned with
    | true => exact reverse_twice hL i x hi ht
    | false => exact reverse_go hL hG i x hi ht hb0
  · exact reverse_no hL at_ x h
theorem total_no (hL : LedW b0 L per opn xs E ce M f w) (a x : Int) (h : ¬ totOk per a x) :
    Calls Try.prog 17 #[.pointer (some ⟨L, 0, none⟩), .int .i64 a, .int .i64 x] w fun e w' => e = .returned (.tuple #[.int .i64 0, .int .i64 1]) ∧ w = w' := by
  have c0 : w.cell? ⟨L, 0, none⟩ = some (.int .i64 (per : Int)) := hL.led.cell 0
  have HC0 := Lib.hid c0
  have h2 : a < 0 ∨ (0 ≤ a ∧ 4 ≤ a) ∨ (0 ≤ a ∧ a < 4 ∧ ¬ hasP per x) := by
    unfold totOk at h
    by_cases h1 : 0 ≤ a
    · by_cases h3 : a < 4
      · exact .inr (.inr ⟨h1, h3, fun c => h ⟨h1, h3, c⟩⟩)
      · exact .inr (.inl ⟨h1, by omega⟩)
    · exact .inl (by omega)
  clear hL c0 h
  rcases h2 with h2 | ⟨h2, h3⟩ | ⟨h2, h3, h4⟩
  · go_enter Try.func17, Try.ntmps17
    go_wp2_with fail
    go_ret2
    exact ⟨rfl, rfl⟩
  · go_enter Try.func17, Try.ntmps17
    go_wp2_with fail
    go_ret2
    exact ⟨rfl, rfl⟩
  · have k1 : ¬ a < 0 := by omega
    have k2 : ¬ 4 ≤ a := by omega
    have H4 := Lib.hid h4
    clear h4
    go_enter Try.func17, Try.ntmps17
    go_wp2_with fail
    refine (has_is L per x _ HC0.out false (by simpa using H4.out)).mono ?_
    rintro e w1 ⟨rfl, rfl⟩
    go_wp2_with fail
    go_ret2
    exact ⟨rfl, rfl⟩
set_option maxHeartbeats 4000000 in
set_option maxRecDepth 100000 in
theorem total_go (hL : LedW b0 L per opn xs E ce M f w) (hG : LedG per opn xs) (a : Int) (q : Nat) (ha0 : 0 ≤ a) (ha4 : a < 4) (hq : q < per) (u v : Int) (hS : sumN (totS per (ents xs) a q) = u ∧ sumE (totS per (ents xs) a q) = v) :
    Calls Try.prog 17 #[.pointer (some ⟨L, 0, none⟩), .int .i64 a, .int .i64 (q : Int)] w fun e w' => e = .returned (.tuple #[.int .i64 u, .int .i64 v]) ∧ Below w.heap.size w w' := by
  have c0 : w.cell? ⟨L, 0, none⟩ = some (.int .i64 (per : Int)) := hL.led.cell 0
  have c3 : w.cell? ⟨L, 3, none⟩ = some (.map (some M)) := hL.led.cell 3
  have HC0 := Lib.hid c0
  have HL := Lib.hid hL
  have HG := Lib.hid hG
  have HS := Lib.hid hS
  have hlen := hG.len
  have hper := hG.per2
  have k1 : ¬ a < 0 := by omega
  have k2 : ¬ 4 ≤ a := by omega
  have q0 : (0 : Int) ≤ (q : Int) := Int.natCast_nonneg _
  have q1 : (q : Int) < (per : Int) := by omega
  have HH := Lib.hid (show hasP per (q : Int) from ⟨q0, q1⟩)
  have hMlt := hL.map.lt
  clear hL hG c0 hS
  go_enter Try.func17, Try.ntmps17
  go_wp2_with fail
  refine (has_is L per (q : Int) _ HC0.out true (by simpa using HH.out)).mono ?_
  rintro e w1 ⟨rfl, rfl⟩
  go_wp2_with (at_range; refine wpList_rangeV rfl _ 60 rfl 74 55 keyed_pl Try.underlying60 M (40 * xs.length) f rfl HL.out.map ?_; intro w2 left0 cnt0 hrg0 hcn0 hst0 hg0 hs0; go_frame)
  have hb2 := (Below.refl w.heap.size w).grown hg0 (Nat.le_refl _) (fun j hj => by cases hj)
  have HRG := Lib.hid hrg0
  have HB2 := Lib.hid hb2
  have HD0 := Lib.hid (show (0 : Int) = sumF 40 (doneF per (ents xs) a q f left0) by
    rw [← sumF_zero 40]
    refine sumF_same fun c hc => ?_
    unfold doneF
    rw [if_pos]
    by_cases h : f (plit a (c : Int)) = none
    · exact .inl h
    · exact .inr (hst0 _ (keyed_pl.key (pkey (by unfold I64; omega) (by unfold I64; omega))) h))
  obtain ⟨R, hR⟩ : ∃ R, w.heap.size = R := ⟨_, rfl⟩
  have hRlt : R < w2.heap.size := by omega
  have hMR : M < R := by omega
  rw [hR] at HRG
  try rw [hR]
  have HRR := Lib.hid hR
  clear hrg0 hst0 hg0 hs0 hb2 hR
  go_loopw [8] (fun v wr => ∃ (left : Lit → Bool) (cnt : Nat) (al : List Int) (B : Option Addr) (cb : Nat), v = .slice B al.length cb ∧ RangeV Try.prog 74 M R (40 * xs.length) f left cnt wr ∧ wr.ownsRow (R + 1) 2 1 (.slice B al.length cb) al.length (ints al) ∧ (∀ x ∈ al, I64 x) ∧ al.length + 240 * cnt ≤ 240 * (40 * xs.length) ∧ al.sum = sumF 40 (doneF per (ents xs) a q f left) ∧ Below w.heap.size w wr ∧ R < wr.heap.size) (fun _ wr => wr.rangeLeft M R)
  case atStart => exact ⟨_, _, [], none, 0, rfl, HRG.out, World.ownsRow_nil _ _ _ _, by simp, by simp; omega, by rw [← HD0.out]; rfl, HB2.out, hRlt⟩
  case round =>
    clear HRG HB2 HD0 hcn0 hRlt
    obtain ⟨left, cnt, al, B, cb, rfl, hrg, hown, hal, hlc, hsum, hbe, hRw⟩ := hrel
    have HO := Lib.hid hown
    have HAL := Lib.hid hal
    have HSUM := Lib.hid hsum
    have HBE := Lib.hid hbe
    have HM1 := Lib.hid hrg.left_eq
    clear hown hal hsum hbe
    obtain ⟨z, hz⟩ : ∃ z, al.length = z := ⟨_, rfl⟩
    have HZ := Lib.hid hz
    rw [hz] at HO hlc ⊢
    clear hz
    go_wp2_with (at_next; refine wpList_nextV rfl _ rfl 74 keyed_pl (fun x : Int × Int => Value.agg #[.int .i64 x.1, .int .i64 x.2]) pkey_inv M R (40 * xs.length) f left cnt rfl hrg ?_ ?_)
    · intro _ hl0
      have htot : al.sum = totS per (ents xs) a q := by
        rw [HSUM.out]
        unfold totS
        refine sumF_same fun c hc => ?_
        unfold doneF
        by_cases h : f (plit a (c : Int)) = none
        · rw [if_pos (.inl h)]
          unfold balL
          rw [HL.out.no a (c : Int) (by unfold I64; omega) (by unfold I64; omega) h, zeros_take]
        · rw [if_neg (by rw [hl0]; simp [h])]
      have hrow : Row wr 0 B (ints al) := (Row.of_own HO.out (by decide)).weak (Nat.zero_le _)
      have hs := sum_is B al cb wr u v HAL.out hrow (by rw [HZ.out]; omega) (by rw [htot]; exact HS.out)
      rw [HZ.out] at hs
      have HSS := Lib.hid hs
      clear htot hs hrg hl0 hrow
      go_wp2_with fail
      refine HSS.out.mono ?_
      rintro e w9 ⟨rfl, hb9⟩
      have HB9 := Lib.hid (HBE.out.trans (hb9.mono HBE.out.size))
      clear hb9
      go_wp2_with fail
      go_ret2
      exact ⟨rfl, HB9.out⟩
    · intro a2 k3 A u3 cu kl w9 cnt1 hkey hlx hf hrg1 hlt hg1 hs1 hen
      try dsimp only at hkey
      try dsimp only at hen
      try dsimp only
      obtain ⟨ha2, hk3, hkl⟩ := pkey_back hkey
      obtain ⟨a', c', ha', hc', hmay, hkl'⟩ := HL.out.keys kl _ hf
      rw [hkl] at hkl'
      obtain ⟨rfl, rfl⟩ := plit_inj ha2 hk3 ha' hc' hkl'
      subst hkl
      obtain ⟨g, hv, hblk⟩ := HL.out.row _ _ _ ha2 hk3 hf
      injection hv with h1 h2 h3
      have h2 := h2.symm
      have h3 := h3.symm
      subst h1 h2 h3
      have hbe9 := HBE.out.grown hg1 HBE.out.size (fun j hj => by injection hj with hj; have := HRR.out; omega)
      have hown9 := own_grown HO.out hg1 (fun g2 hg2 e => by
        injection e with e
        have := (HO.out.lt g2 hg2).1
        omega)
      have hblk9 := hblk.below hbe9 hblk.lt
      have hal1 := alloc1 w9 (.cells #[.int .i64 a2, .int .i64 k3] 74)
      obtain ⟨wz, hwz⟩ : ∃ wz, w9.alloc (.cells #[.int .i64 a2, .int .i64 k3] 74) = wz := ⟨_, rfl⟩
      obtain ⟨Z, hZ⟩ : ∃ Z, w9.heap.size = Z := ⟨_, rfl⟩
      have hbkz := Blk.new w9 74 #[.int .i64 a2, .int .i64 k3]
      rw [hwz] at hal1 hbkz
      rw [hZ] at hbkz
      have z0 : wz.cell? ⟨Z, 0, none⟩ = some (.int .i64 a2) := hbkz.cell 0
      have hownz := own_below hown9 hal1
      have hblkz := hblk9.below hal1 hblk9.lt
      have hbez := hbe9.trans (hal1.mono hbe9.size)
      have hrgz := hrg1.later hal1
      have hszz : R < wz.heap.size := by
        have := hal1.size
        omega
      have hlen2 : (ints ((rowL (ents xs) per a2 k3).take (q + 1))).length = (q + 1) * 1 := by
        rw [ints_len, List.length_take, rowL_len]; omega
      have hnews : ∀ j y, (ints ((rowL (ents xs) per a2 k3).take (q + 1)))[j]? = some y → wz.cell? (Addr.add ⟨g, 0, none⟩ j) = some y := fun j y hy => by
        rw [addr_add, Nat.zero_add]
        have h1 : (ints (rowL (ents xs) per a2 k3))[j]? = some y := by
          simp only [ints, List.map_take] at hy ⊢
          rw [List.getElem?_take] at hy
          split at hy
          · exact hy
          · cases hy
        exact (hblkz.cell j).trans (by simpa using h1)
      have HNEWS := Lib.hid hnews
      have HLEN2 := Lib.hid hlen2
      have HOZ := Lib.hid hownz
      have HBEZ := Lib.hid hbez
      have HRGZ := Lib.hid hrgz
      have HLT := Lib.hid hlt
      have HWZ := Lib.hid hwz
      have HZZ := Lib.hid hZ
      have hkk := hmay.2.2
      obtain ⟨k4, hk4⟩ : ∃ k4 : Nat, k3 = (k4 : Int) := ⟨k3.toNat, by omega⟩
      have haI : I64 a := by unfold I64; omega
      have hz2 : (z + (q + 1)) * 8 ≤ 140737488355328 := by omega
      have hz3 : z + (q + 1) ≤ maxLen := by unfold maxLen; omega
      have hz4 : R + 1 ≤ wz.heap.size := by omega
      have hlc2 : z + (q + 1) + 240 * cnt1 ≤ 240 * (40 * xs.length) := by omega
      have hlc3 : z + 240 * cnt1 ≤ 240 * (40 * xs.length) := by omega
      have w1 : IntKind.i64.wrap ((q : Int) + 1) = (q : Int) + 1 := IntWalk.i64_in _ (by omega)
      have g2 : (0 : Int) ≤ (q : Int) + 1 := by omega
      have g3 : (q : Int) + 1 ≤ (per : Int) := by omega
      have g4 : ((q : Int) + 1).toNat = q + 1 := by omega
      by_cases haa : a2 = a
      · subst haa
        have hstep := done_hit (per := per) (es := ents xs) (q := q) (f := f) (left := left) ha2 (k := k4) (by omega) (by rw [← hk4, hf]; simp) (by rw [← hk4]; exact hlx)
        rw [← hk4] at hstep
        have HST := Lib.hid hstep
        have HFI := Lib.hid (HG.out.I ha2 hk3)
        clear hstep hf hlx hkey hrg1 hg1 hs1 hbe9 hown9 hblk9 hal1 hbkz hownz hblkz hbez hrgz hlen2 hnews hlt hwz hZ hmay hblk hrg hk4 hkk
        obtain rfl := HWZ.out
        obtain rfl := HZZ.out
        go_wp2_with (at_builtin; refine wpList_app E_i64 rfl (.tmp 37) (.tmp 41) rfl rfl HOZ.out ⟨g, 0, none⟩ (q + 1) per (ints ((rowL (ents xs) per a2 k3).take (q + 1))) rfl HLEN2.out HNEWS.out (ints_one' _) hz2 hz3 hz4 (by omega) ?_; intro g5 cap5 w6 hown6 hg6 hat6; have HO6 := Lib.hid hown6; have HG6 := Lib.hid hg6; clear hown6 hg6 hat6)
        have hrg6 := HRGZ.out.kept HG6.out (fun e => by have := (HOZ.out.lt _ e.symm).1; omega) (fun e => by have := (HOZ.out.lt _ e.symm).1; omega)
        have hbe6 := HBEZ.out.grown HG6.out HBEZ.out.size (fun j hj => by have h1 := (HOZ.out.lt _ hj).1; have h2 := HRR.out; omega)
        have hsz6 := HG6.out.size
        have HRG6 := Lib.hid hrg6
        have HBE6 := Lib.hid hbe6
        have hR6 : R < w6.heap.size := by omega
        clear hrg6 hbe6 hsz6
        go_roundw
        case rel =>
          refine ⟨_, cnt1, al ++ (rowL (ents xs) per a2 k3).take (q + 1), some ⟨g5, 0, none⟩, cap5, ?_, HRG6.out, ?_, fun y hy => ?_, ?_, ?_, HBE6.out, hR6⟩
          · rw [List.length_append, HZ.out, List.length_take, rowL_len, Nat.min_eq_left (by omega)]
          · have := HO6.out
            rw [List.length_append, HZ.out, List.length_take, rowL_len, Nat.min_eq_left (by omega), show ints (al ++ (rowL (ents xs) per a2 k3).take (q + 1)) = ints al ++ ints ((rowL (ents xs) per a2 k3).take (q + 1)) by simp [ints]]
            exact this
          · rcases List.mem_append.1 hy with h | h
            · exact HAL.out y h
            · exact HFI.out y (List.mem_of_mem_take h)
          · rw [List.length_append, HZ.out, List.length_take, rowL_len, Nat.min_eq_left (by omega)]; exact hlc2
          · rw [List.sum_append, HST.out, HSUM.out]; rfl
        case measure => rw [HRG6.out.left_eq, HM1.out]; exact HLT.out
      · have hstep := done_miss (per := per) (es := ents xs) (q := q) (f := f) (left := left) (k := k3) haI ha2 hk3 haa
        have HST := Lib.hid hstep
        have haa2 : (a2 == a) = false := by simpa using haa
        have hszw : R < wz.heap.size := hszz
        clear hstep hf hlx hkey hrg1 hg1 hs1 hbe9 hown9 hblk9 hal1 hbkz hownz hblkz hbez hrgz hlen2 hnews hlt hwz hZ hmay hblk hrg hk4 hkk
        go_wp2_with fail
        try rw [HWZ.out]
        go_roundw
        case rel => exact ⟨_, cnt1, al, B, cb, by rw [HZ.out], HRGZ.out, by rw [HZ.out]; exact HOZ.out, HAL.out, by rw [HZ.out]; exact hlc3, by rw [HST.out]; exact HSUM.out, HBEZ.out, hszw⟩
        case measure => rw [HRGZ.out.left_eq, HM1.out]; exact HLT.out
end
end
end Go.Proofs.Ytmijcgcppankcaa.AC
