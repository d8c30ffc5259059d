/- The walks of the reference's exact numbers: made, Of, at, least, Neg. -/
import Derived.Test.YtbdhbongaikphaaExactMath
import Derived.Test.YtbdhbongaikphaaSum
namespace Go.Proofs.Ytbdhbongaikphaa.Exact
open Go.RowKit Go.Proofs.Ytbdhbongaikphaa.Cents
set_option linter.unusedVariables false
set_option linter.unusedSimpArgs false

theorem info_int : (Try.prog.info? 3).map (fun i => (i.zero, i.size, i.bytes)) = some (some (.int .i64 0), 1, 8) := by kernel_rfl
theorem E_int : ElemT Try.prog 40 3 1 8 := .mk' Try.underlying40 info_int rfl (by decide)

/-- A value of the reference's type Exact: the number n, by at most k digits, in blocks of which F holds. -/
def Ex (w : World) (F : Nat → Prop) (v : Value) (n : Int) (k : Nat) : Prop :=
  ∃ ds A c, v = .agg #[.int .i64 (EM.sgn n), .slice A ds.length c] ∧ ds.length ≤ c ∧ ds.length ≤ k ∧ RowF w F A (ints ds) ∧ EM.Tells ds n
theorem Ex.below {w w' : World} {F : Nat → Prop} {v : Value} {n : Int} {k : Nat} (h : Ex w F v n k) (hb : Below w.heap.size w w') : Ex w' F v n k := by
  obtain ⟨ds, A, c, h1, h2, h3, h4, h5⟩ := h
  exact ⟨ds, A, c, h1, h2, h3, h4.below hb, h5⟩
theorem Ex.weak {w : World} {F G : Nat → Prop} {v : Value} {n : Int} {k : Nat} (h : Ex w F v n k) (hF : ∀ k, F k → k < w.heap.size → G k) : Ex w G v n k := by
  obtain ⟨ds, A, c, h1, h2, h3, h4, h5⟩ := h
  exact ⟨ds, A, c, h1, h2, h3, h4.weak hF, h5⟩
theorem Ex.more {w : World} {F : Nat → Prop} {v : Value} {n : Int} {k k' : Nat} (h : Ex w F v n k) (hk : k ≤ k') : Ex w F v n k' := by
  obtain ⟨ds, A, c, h1, h2, h3, h4, h5⟩ := h
  exact ⟨ds, A, c, h1, h2, by omega, h4, h5⟩
theorem Ex.fewer {w : World} {F : Nat → Prop} {v : Value} {n : Int} {k k' : Nat} (h : Ex w F v n k) (hn : (n.natAbs : Int) < 1000 ^ k') : Ex w F v n k' := by
  obtain ⟨ds, A, c, h1, h2, h3, h4, h5⟩ := h
  exact ⟨ds, A, c, h1, h2, h5.len hn, h4, h5⟩
/-- What a call that tells an exact number answers. -/
def RetEx (w : World) (F : Nat → Prop) (n : Int) (k : Nat) (e : Ending) (w' : World) : Prop := ∃ v, e = .returned v ∧ Ex w' F v n k ∧ Below w.heap.size w w'
/-- The blocks that F holds of: all new ones, at the least. -/
def New (w : World) (F : Nat → Prop) : Prop := ∀ k, w.heap.size ≤ k → F k
theorem New.later {w w' : World} {F : Nat → Prop} (h : New w F) (hb : w.heap.size ≤ w'.heap.size) : New w' F := fun k hk => h k (by omega)

theorem ints_get {ds : List Int} {i : Nat} (h : i < ds.length) : (ints ds)[i]'(by rw [ints_len]; exact h) = .int .i64 (EM.dig ds i) := by
  simp [ints, EM.dig, List.getD_eq_getElem?_getD, List.getElem?_eq_getElem h]
theorem RowF.dig {w : World} {F : Nat → Prop} {A : Option Addr} {ds : List Int} {i : Nat} (h : RowF w F A (ints ds)) (hi : i < ds.length) : ∃ ad, A = some ad ∧ w.cell? (ad.add i) = some (.int .i64 (EM.dig ds i)) := by
  obtain ⟨ad, e, _, hc⟩ := h.row.at_ (k := i) (by rw [ints_len]; exact hi)
  exact ⟨ad, e, by rw [hc, ints_get hi]⟩
theorem Row.dig {w : World} {A : Option Addr} {ds : List Int} {b i : Nat} (h : Row w b A (ints ds)) (hi : i < ds.length) : ∃ ad, A = some ad ∧ w.cell? (ad.add i) = some (.int .i64 (EM.dig ds i)) := by
  obtain ⟨ad, e, _, hc⟩ := h.at_ (k := i) (by rw [ints_len]; exact hi)
  exact ⟨ad, e, by rw [hc, ints_get hi]⟩
theorem dig_past {ds : List Int} {i : Nat} (h : ds.length ≤ i) : EM.dig ds i = 0 := by
  unfold EM.dig; rw [List.getD_eq_getElem?_getD, List.getElem?_eq_none h]; rfl

theorem at_any (F : Nat → Prop) (A : Option Addr) (ds : List Int) (c i : Nat) (w : World) (hr : RowF w F A (ints ds)) :
    Calls Try.prog 35 #[.slice A ds.length c, .int .i64 (i : Int)] w fun e w' => e = .returned (.int .i64 (EM.dig ds i)) ∧ w = w' := by
  by_cases h : i < ds.length
  · obtain ⟨ad, rfl, hc⟩ := RowF.dig hr h
    generalize hn : ds.length = n at *
    clear hn hr
    go_enter Try.func35, Try.ntmps35
    go_wp2
    go_ret
    exact ⟨rfl, rfl⟩
  · have e := dig_past (ds := ds) (i := i) (by omega)
    have E := Lib.hid e
    generalize hn : ds.length = n at *
    clear hn hr e
    go_enter Try.func35, Try.ntmps35
    go_wp2
    go_ret
    exact ⟨ri E.out.symm, rfl⟩

def sliceLen : Value → Nat | .slice _ n _ => n | _ => 0

theorem RowF.init {w : World} {F : Nat → Prop} {A : Option Addr} {xs : List Int} {x : Int} (h : RowF w F A (ints (xs ++ [x]))) : RowF w F A (ints xs) := by
  have := h.take xs.length
  simpa [ints] using this

set_option maxHeartbeats 1000000 in
set_option maxRecDepth 100000 in
theorem made_any (F : Nat → Prop) (s : Int) (A : Option Addr) (ds : List Int) (c : Nat) (n : Int) (w : World) (hr : RowF w F A (ints ds)) (hd : EM.Digs ds) (hc : ds.length ≤ c) (hl : ds.length ≤ 1000000) (hv : EM.val ds = n.natAbs) (hs : n ≠ 0 → s = EM.sgn n) :
    Calls Try.prog 36 #[.int .i64 s, .slice A ds.length c] w (RetEx w F n ds.length) := by
  have HR := Lib.hid hr
  have HD := Lib.hid hd
  have HV := Lib.hid hv
  have HS := Lib.hid hs
  clear hr hd hv hs
  go_enter Try.func36, Try.ntmps36
  go_wp2
  go_loop [1] (fun v => ∃ es : List Int, v = .slice A es.length c ∧ es.length ≤ ds.length ∧ RowF w F A (ints es) ∧ EM.Digs es ∧ EM.val es = n.natAbs) (fun v => sliceLen v)
  case atStart => exact ⟨ds, rfl, Nat.le_refl _, HR.out, HD.out, HV.out⟩
  case round =>
    obtain ⟨es, rfl, hle, her, hed, hev⟩ := hrel
    rcases EM.snoc_or es with rfl | ⟨fs, x, rfl⟩
    · have hn : n = 0 := by simp [EM.val] at hev; omega
      have HN := Lib.hid hn
      clear her hed hev hn
      go_wp2
      refine bodyPost_ret (v := .agg #[.int .i64 0, .slice none 0 0]) (by simp [results, Try.results36, go_sem]) rfl ⟨_, rfl, ?_, ?_⟩
      · rw [HN.out]; exact ⟨[], none, 0, rfl, Nat.le_refl _, Nat.zero_le _, RowF.none_, EM.Tells.zero⟩
      · exact (Below.refl _ _).alloc (Nat.le_refl _) _
    · have hm : (fs ++ [x]).length = fs.length + 1 := by simp
      obtain ⟨ad, hA, hx⟩ := Row.last her.row
      subst hA
      have hx' : (w.alloc (.cells #[.int .i64 0, .slice none 0 0] 64)).cell? (ad.add fs.length) = some (.int .i64 x) := cell_below' ((Below.refl _ _).alloc (Nat.le_refl _) _) hx
      clear hx
      have HE := Lib.hid her
      have HED := Lib.hid hed
      have HEV := Lib.hid hev
      clear her hed hev
      rw [hm] at hle ⊢
      generalize hml : fs.length = m at *
      have HML := Lib.hid hml
      clear hml hm
      by_cases hx0 : x = 0
      · subst hx0
        go_wp2
        go_round
        case rel =>
          refine ⟨fs, by rw [HML.out], by rw [HML.out]; omega, RowF.init HE.out, HED.out.init, ?_⟩
          have := HEV.out; rw [EM.val_snoc] at this; simpa using this
        case measure => simp [sliceLen]
      · have hs : s = EM.sgn n := HS.out (by
          have h1 := EM.val_ge HED.out hx0; have h2 := EM.pow_pos' fs.length; have h3 := HEV.out; omega)
        subst hs
        go_wp2
        refine bodyPost_end (v := .agg #[.int .i64 (EM.sgn n), .slice (some ad) (m + 1) c]) (by simp [results, Try.results36, go_sem]) rfl ⟨_, rfl, ?_, ?_⟩
        · refine ⟨fs ++ [x], some ad, c, by simp [HML.out], by simp [HML.out]; omega, by simp [HML.out]; omega, ?_, HED.out, EM.Norm.snoc hx0, HEV.out⟩
          exact HE.out.below ((Below.refl _ _).alloc (Nat.le_refl _) _)
        · exact (Below.refl _ _).alloc (Nat.le_refl _) _

theorem own_cap {w : World} {base e size n c : Nat} {A : Option Addr} {xs : List Value} (h : w.ownsRow base e size (.slice A n c) n xs) : n ≤ c := by
  obtain ⟨A', c', hv, hc⟩ := own_slice h
  injection hv with _ _ h3; omega
theorem own_empty (w : World) (e size : Nat) (base : Nat) (h : base ≤ w.heap.size) : (w.alloc (.cells #[] e)).ownsRow base e size (.slice (some ⟨w.heap.size, 0, none⟩) 0 0) 0 [] := by
  have := World.ownsRow_made (base := base) (e := e) (size := size) w #[] 0 h (by simp [maxLen]) (by simp)
  simpa using this

/-- The row that Of makes; the block of its answer. -/
structure OfW (w0 : World) (n m sg : Int) (out : List Int) (v : Value) (wr : World) : Prop where
  res : Blk wr w0.heap.size 64 #[.int .i64 0, .slice none 0 0]
  own : wr.ownsRow (w0.heap.size + 1) 3 1 v out.length (ints out)
  be : Below w0.heap.size w0 wr
  s : EM.OfS n m sg out

theorem OfW.start (w : World) {n : Int} (hn : (n.natAbs : Int) ≤ 9223372036854775808) :
    OfW w n n 1 [] (.slice (some ⟨w.heap.size + 1, 0, none⟩) 0 0) ((w.alloc (.cells #[.int .i64 0, .slice none 0 0] 64)).alloc (.cells #[] 3)) where
  res := (Blk.new w _ _).alloc _
  own := by have := own_empty (w.alloc (.cells #[.int .i64 0, .slice none 0 0] 64)) 3 1 (w.heap.size + 1) (by simp); simpa [ints] using this
  be := ((Below.refl _ _).alloc (Nat.le_refl _) _).alloc (by simp) _
  s := EM.OfS.start hn
theorem OfW.step {w0 wr w1 : World} {n m sg sg' x q : Int} {out : List Int} {v v' : Value} {o : Obj} (h : OfW w0 n m sg out v wr) (hs : EM.OfS n q sg' (out ++ [x]))
    (hown : w1.ownsRow (w0.heap.size + 1) 3 1 v' (out.length + 1) (ints out ++ [.int .i64 x])) (hg : (wr.alloc o).grownBy w1 v.ownBlock) : OfW w0 n q sg' (out ++ [x]) v' w1 where
  res := (h.res.alloc _).grown hg (own_ne h.own (by omega))
  own := by rw [List.length_append, show ints (out ++ [x]) = ints out ++ [.int .i64 x] by simp [ints]]; exact hown
  be := (h.be.alloc h.be.size _).grown hg (by simp; have := h.be.size; omega) (fun j hj => by have := (h.own.lt j hj).1; omega)
  s := hs

theorem tmod_neg {m : Int} (h : m < 0) : m.tmod 1000 = -((m.natAbs : Int) % 1000) := by
  have : m = -(m.natAbs : Int) := by omega
  conv => lhs; rw [this]
  rw [Int.neg_tmod, Int.tmod_eq_emod_of_nonneg (by omega)]
theorem tdiv_neg {m : Int} (h : m < 0) : m.tdiv 1000 = -((m.natAbs : Int) / 1000) := by
  have : m = -(m.natAbs : Int) := by omega
  conv => lhs; rw [this]
  rw [Int.neg_tdiv, Int.tdiv_eq_ediv_of_nonneg (by omega)]

set_option maxHeartbeats 1000000 in
set_option maxRecDepth 100000 in
theorem of_any (F : Nat → Prop) (n : Int) (w : World) (hF : New w F) (hn : I64 n) : Calls Try.prog 21 #[.int .i64 n] w (RetEx w F n 7) := by
  have hn0 : (n.natAbs : Int) ≤ 9223372036854775808 := by have := hn.1; have := hn.2; omega
  have HN := Lib.hid hn0
  have HI := Lib.hid hn
  clear hn0 hn
  go_enter Try.func21, Try.ntmps21
  go_wp2
  go_loopw [3, 4, 5] (fun sg v m wr => ∃ (s x : Int) (out : List Int) (A : Option Addr) (c : Nat), sg = .int .i64 s ∧ v = .slice A out.length c ∧ m = .int .i64 x ∧ OfW w n x s out v wr) (fun _ _ m _ => (intOf m).natAbs)
  case atStart => exact ⟨1, n, [], _, _, rfl, rfl, rfl, OfW.start w HN.out⟩
  case round =>
    obtain ⟨s, x, out, A, c, rfl, rfl, rfl, hs⟩ := hrel
    have hlen := hs.s.len
    have hsz := hs.res.lt
    have hb1 : (out.length + 1) * 8 ≤ 140737488355328 := by omega
    have hb2 : out.length + 1 ≤ maxLen := by unfold maxLen; omega
    rcases Int.lt_trichotomy x 0 with hx | hx | hx
    · have t1 := tmod_neg hx
      have t2 := tdiv_neg hx
      have hlow : -9223372036854775808 ≤ x := by
        have := hs.s.eq; have := HN.out; have := EM.val_nonneg hs.s.digs; have := EM.pow_pos' out.length
        have h3 : (1 : Int) * x.natAbs ≤ 1000 ^ out.length * x.natAbs := Int.mul_le_mul_of_nonneg_right (by omega) (by omega)
        omega
      have HS := Lib.hid hs
      have T1 := Lib.hid t1
      have T2 := Lib.hid t2
      clear hs t1 t2 hlen
      go_wp2_with (at_builtin; refine wpList_app E_int rfl (.tmp 21) (.tmp 23) rfl (n := out.length) (xs := ints out) rfl (HS.out.own.alloc _) ⟨wr.heap.size, 0, none⟩ 1 1 [_] rfl rfl (cell_one_new _ _ _) (one_cell _ _) hb1 hb2 (by simp; omega) (by decide) ?_; intro g cap w1 hown1 hg1 hat1; have HO := Lib.hid hown1; have HG := Lib.hid hg1; clear hown1 hg1 hat1)
      all_goals
        go_roundw
        case rel =>
          refine ⟨-1, _, out ++ [_], _, _, rfl, by rw [List.length_append]; rfl, rfl, HS.out.step (HS.out.s.step (by omega) ?_ ?_ ?_ ?_ ?_ ?_) HO.out HG.out⟩
          · have := T1.out; first | omega | (simp only [w64]; omega)
          · have := T2.out; omega
          · intro; omega
          · intro; have := T2.out; omega
          · intro; omega
          · intro; rfl
        case measure => have := T2.out; simp only [intOf]; omega
    · subst hx
      obtain ⟨hv, hsg⟩ := hs.s.done
      have hown := hs.own
      have hrow := Row.of_own hown (by decide)
      have hcap := own_cap hown
      have hle : out.length ≤ 1000000 := by omega
      have hbe := hs.be
      have hd := hs.s.digs
      have hres := hs.res
      clear hs
      have HB := Lib.hid hbe
      have HR := Lib.hid hres
      have HM := Lib.hid (made_any (fun k => w.heap.size < k) s A out c n wr (hrow.rowF (fun k hk _ => by omega)) hd hcap hle hv hsg)
      have HF := Lib.hid hF
      clear hown hrow hbe hd hres hv hsg hcap hF
      go_wp2_with fail
      refine HM.out.mono ?_
      rintro e w2 ⟨_, rfl, ⟨es, A2, c2, rfl, h2, h3, h4, h5⟩, hb2⟩
      have hres2 := HR.out.below hb2 hsz
      have hc2 : w2.cell? ⟨w.heap.size, 0, none⟩ = some (.int .i64 0) := hres2.cell 0
      have hc3 : w2.cell? ⟨w.heap.size, 1, none⟩ = some (.slice none 0 0) := hres2.cell 1
      have hf2 := hres2.frozen 0
      have hf3 := hres2.frozen 1
      have H4 := Lib.hid h4
      have H5 := Lib.hid h5
      have HB2 := Lib.hid hb2
      clear h4 h5 hb2 hres2
      go_wp2_with fail
      refine bodyPost_end (v := .agg #[.int .i64 (EM.sgn n), .slice A2 es.length c2]) (by simp [results, Try.results21, go_sem, hc2, hc3]) rfl ⟨_, rfl, ?_, ?_⟩
      · refine ⟨es, A2, c2, rfl, h2, by omega, ?_, H5.out⟩
        refine RowF.weak (((H4.out.setCell (by simp) _).setCell (by simp) _)) (fun k hk _ => HF.out k (by omega))
      · exact ((HB.out.trans (HB2.out.mono HB.out.size)).setCell (Nat.le_refl _) _).setCell (Nat.le_refl _) _
    · have hlow : x ≤ 9223372036854775807 := by
        have := HI.out.2; have := hs.s.neg; have := hs.s.eq; have := HN.out; have := EM.val_nonneg hs.s.digs; have := EM.pow_pos' out.length
        have h3 : (1 : Int) * x.natAbs ≤ 1000 ^ out.length * x.natAbs := Int.mul_le_mul_of_nonneg_right (by omega) (by omega)
        omega
      have HS := Lib.hid hs
      clear hs hlen
      go_wp2_with (at_builtin; refine wpList_app E_int rfl (.tmp 21) (.tmp 23) rfl (n := out.length) (xs := ints out) rfl (HS.out.own.alloc _) ⟨wr.heap.size, 0, none⟩ 1 1 [_] rfl rfl (cell_one_new _ _ _) (one_cell _ _) hb1 hb2 (by simp; omega) (by decide) ?_; intro g cap w1 hown1 hg1 hat1; have HO := Lib.hid hown1; have HG := Lib.hid hg1; clear hown1 hg1 hat1)
      go_roundw
      case rel =>
        refine ⟨s, _, out ++ [_], _, _, rfl, by rw [List.length_append]; rfl, rfl, HS.out.step (HS.out.s.step (by omega) ?_ ?_ ?_ ?_ ?_ ?_) HO.out HG.out⟩
        · omega
        · omega
        · intro; omega
        · intro; omega
        · intro; rfl
        · intro; omega
      case measure => simp only [intOf]; omega

theorem quiet_at (F : Nat → Prop) (A : Option Addr) (ds : List Int) (c i n : Nat) (w : World) (hr : RowF w F A (ints ds)) :
    Calls Try.prog 35 #[.slice A ds.length c, .int .i64 (i : Int)] (w.drewN n) fun e w' => e = .returned (.int .i64 (EM.dig ds i)) ∧ ∃ m, w' = w.drewN m :=
  (at_any F A ds c i _ (hr.drewN n)).mono fun _ _ ⟨h, hw⟩ => ⟨h, n, hw.symm⟩

set_option maxHeartbeats 1000000 in
set_option maxRecDepth 100000 in
theorem least_any (F : Nat → Prop) (A B : Option Addr) (a b : List Int) (c d : Nat) (w : World) (ha : RowF w F A (ints a)) (hb : RowF w F B (ints b)) (da : EM.Digs a) (db : EM.Digs b) (la : a.length ≤ 1000000) (lb : b.length ≤ 1000000) :
    Calls Try.prog 37 #[.slice A a.length c, .slice B b.length d] w fun e w' => e = .returned (.bool (decide (EM.val a < EM.val b))) ∧ Quiet w w' := by
  have HA := Lib.hid ha
  have HB := Lib.hid hb
  have DA := Lib.hid da
  have DB := Lib.hid db
  clear ha hb da db
  generalize hp : decide (EM.val a < EM.val b) = post at *
  have HP := Lib.hid hp
  clear hp
  have hcs : a.length < b.length ∨ b.length < a.length ∨ (a.length ≤ b.length ∧ b.length ≤ a.length) := by omega
  rcases hcs with h1 | h1 | ⟨h1, h2⟩
  all_goals
    go_enter Try.func37, Try.ntmps37
    go_wp2
    go_loopw [5] (fun v wr => ∃ (j : Nat), v = .int .i64 ((j : Int) - 1) ∧ j ≤ 1000000 ∧ EM.Same a b j ∧ Quiet w wr) (fun v _ => (intOf v + 1).toNat)
    case atStart =>
      first
        | exact ⟨a.length, rfl, la, EM.same_top a b _ (by omega) (by omega), Quiet.refl _⟩
        | exact ⟨b.length, rfl, lb, EM.same_top a b _ (by omega) (by omega), Quiet.refl _⟩
    case round =>
      obtain ⟨j, rfl, hj, hsame, ⟨n, rfl⟩⟩ := hrel
      rcases j with _ | j
      · have hpf : false = post := by
          rw [← HP.out]; have := EM.same_zero hsame; simp; omega
        have HF := Lib.hid hpf
        clear hsame hpf
        go_wp2
        go_ret
        exact ⟨by rw [← HF.out]; rfl, n, rfl⟩
      · have HS := Lib.hid hsame
        clear hsame
        by_cases hxy : EM.dig a j = EM.dig b j
        · have hbq : (EM.dig a j == EM.dig b j) = true := by simpa using hxy
          have HX := Lib.hid hxy
          clear hxy
          go_wp2_with fail
          refine (at_any F A a c j _ (RowF.drewN HA.out n)).mono ?_
          rintro e w1 ⟨rfl, rfl⟩
          go_wp2_with fail
          refine (at_any F B b d j _ (RowF.drewN HB.out n)).mono ?_
          rintro e w1 ⟨rfl, rfl⟩
          go_wp2_with fail
          go_roundw
          case rel => exact ⟨j, by go_num, by omega, fun i hi => (by rcases Nat.eq_or_lt_of_le hi with h | h; exact h ▸ HX.out; exact HS.out i h), n, rfl⟩
          case measure => simp [intOf]
        · have hbq : (EM.dig a j == EM.dig b j) = false := by simpa using hxy
          have hpf : decide (EM.dig a j < EM.dig b j) = post := by
            rw [← HP.out]
            by_cases hlt : EM.dig a j < EM.dig b j
            · have := EM.less_of DA.out DB.out HS.out hlt; simp [hlt, this]
            · have := EM.less_of DB.out DA.out (fun i hi => (HS.out i hi).symm) (show EM.dig b j < EM.dig a j by omega); simp; omega
          have HF := Lib.hid hpf
          clear hpf hxy
          go_wp2_with fail
          refine (at_any F A a c j _ (RowF.drewN HA.out n)).mono ?_
          rintro e w1 ⟨rfl, rfl⟩
          go_wp2_with fail
          refine (at_any F B b d j _ (RowF.drewN HB.out n)).mono ?_
          rintro e w1 ⟨rfl, rfl⟩
          go_wp2_with fail
          refine (at_any F A a c j _ (RowF.drewN HA.out n)).mono ?_
          rintro e w1 ⟨rfl, rfl⟩
          go_wp2_with fail
          refine (at_any F B b d j _ (RowF.drewN HB.out n)).mono ?_
          rintro e w1 ⟨rfl, rfl⟩
          go_wp2_with fail
          go_ret
          exact ⟨by rw [← HF.out]; rfl, n, rfl⟩

theorem neg_any (F : Nat → Prop) (v : Value) (n : Int) (k : Nat) (w : World) (h : Ex w F v n k) :
    Calls Try.prog 50 #[v] w (RetEx w F (-n) k) := by
  obtain ⟨ds, A, c, rfl, h2, h3, h4, h5⟩ := h
  have H4 := Lib.hid h4
  have H5 := Lib.hid h5
  have hs : wrap64 (-EM.sgn n) = EM.sgn (-n) := by
    rw [EM.sgn_neg, w64]; unfold EM.sgn; repeat' split <;> omega
  have HS := Lib.hid hs
  clear h4 h5 hs
  go_enter Try.func50, Try.ntmps50
  go_wp2
  refine bodyPost_ret (v := .agg #[.int .i64 (wrap64 (-EM.sgn n)), .slice A ds.length c]) (by simp [results, Try.results50, go_sem]) rfl ⟨_, rfl, ?_, ?_⟩
  · exact ⟨ds, A, c, by rw [HS.out], h2, h3, (H4.out.alloc _).alloc _, H5.out.neg⟩
  · exact ((Below.refl _ _).alloc (Nat.le_refl _) _).alloc (by simp) _
end Go.Proofs.Ytbdhbongaikphaa.Exact
