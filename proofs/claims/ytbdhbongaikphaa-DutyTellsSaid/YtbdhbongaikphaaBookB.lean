/- A book in memory; what may be asked of it: has, find, Price, Item. -/
import Derived.Test.YtbdhbongaikphaaBookA
import Derived.Test.YtbdhbongaikphaaCentsMath
namespace Go.Proofs.Ytbdhbongaikphaa.BK
open Go.RowKit Go.Proofs.Ytbdhbongaikphaa.Cents
set_option linter.unusedVariables false
set_option linter.unusedSimpArgs false

/-- An item. -/
structure It where
  tag : Int
  group : Int
  method : Int
  price : Int
deriving DecidableEq
def It.cell (x : It) : List Value := [.int .i64 x.tag, .int .i64 x.group, .int .i64 x.method, .int .i64 x.price]
def It.val (x : It) : Value := .agg #[.int .i64 x.tag, .int .i64 x.group, .int .i64 x.method, .int .i64 x.price]
def It.zero : It := ⟨0, 0, 0, 0⟩
def icells (l : List It) : List Value := l.flatMap It.cell
theorem it_len (x : It) : x.cell.length = 4 := rfl
def itAt (l : List It) (i : Nat) : It := l.getD i It.zero
theorem i_cells {w : World} {A : Option Addr} {l : List It} (hr : Row w 0 A (icells l)) {j : Nat} (h : j < l.length) :
    ∃ ad, A = some ad ∧ w.cell? (ad.add (j * 4)) = some (.int .i64 (itAt l j).tag) ∧ w.cell? ⟨(ad.add (j * 4)).block, (ad.add (j * 4)).off + 1, none⟩ = some (.int .i64 (itAt l j).group) ∧ w.cell? ⟨(ad.add (j * 4)).block, (ad.add (j * 4)).off + 2, none⟩ = some (.int .i64 (itAt l j).method) ∧ w.cell? ⟨(ad.add (j * 4)).block, (ad.add (j * 4)).off + 3, none⟩ = some (.int .i64 (itAt l j).price) := by
  obtain ⟨ad, e, _, h0, hi⟩ := Row.elem it_len (by omega) hr h
  have he : itAt l j = l[j] := by simp [itAt, List.getD_eq_getElem?_getD, h]
  rw [he]
  exact ⟨ad, e, h0 _ rfl, hi 1 _ (by omega) rfl, hi 2 _ (by omega) rfl, hi 3 _ (by omega) rfl⟩

def rowAt (rows : List PRow) (i : Nat) : PRow := rows.getD i []
/-- A book at block b, all of whose blocks are of S. -/
structure BkI (S : Nat → Prop) (b : Nat) (its : List It) (rows : List PRow) (I : Option Addr) (cI : Nat) (v : Value) (vals : List Value) (w : World) : Prop where
  lt : ∀ k, S k → k < w.heap.size
  bx : Blk w b 56 #[.slice I its.length cI, v]
  sb : S b
  items : RowF w (fun q => S q ∧ q ≠ b ∧ v.ownBlock ≠ some q) I (icells its)
  own : w.ownsRow 0 59 1 v its.length vals
  sv : ∀ q, v.ownBlock = some q → S q
  row : ∀ i, i < its.length → ∃ A c, vals[i]? = some (.slice A (rowAt rows i).length c) ∧ (rowAt rows i).length ≤ c ∧ RowF w (fun q => S q ∧ q ≠ b ∧ v.ownBlock ≠ some q) A (pcells (rowAt rows i))
def BkW (S : Nat → Prop) (b : Nat) (its : List It) (rows : List PRow) (w : World) : Prop := ∃ I cI v vals, BkI S b its rows I cI v vals w
/-- What a book's rows are like. -/
structure RowOk (r : PRow) : Prop where
  asc : Asc r
  first : ∃ p ∈ r, p.1 = 0
  i64 : ∀ p ∈ r, I64 p.2
  len : r.length ≤ 101
structure BkOk (its : List It) (rows : List PRow) : Prop where
  len : its.length ≤ 40
  rlen : rows.length = its.length
  i64 : ∀ x ∈ its, I64 x.tag ∧ I64 x.group ∧ I64 x.method ∧ I64 x.price
  row : ∀ i, i < its.length → RowOk (rowAt rows i)
section
variable {S : Nat → Prop} {b : Nat} {its : List It} {rows : List PRow} {I : Option Addr} {cI : Nat} {v : Value} {vals : List Value} {w w' : World}
theorem own_keep {base e size n : Nat} {xs : List Value} (h : w.ownsRow base e size v n xs) (hk : ∀ k, v.ownBlock = some k → w'.heap[k]? = w.heap[k]?) : w'.ownsRow base e size v n xs := by
  refine ⟨h.1, ?_⟩
  rcases h.2 with hn | ⟨g, cap, cur, rfl, hb, hgg, rest⟩
  · exact .inl hn
  · exact .inr ⟨g, cap, cur, rfl, hb, by rw [hk g rfl]; exact hgg, rest⟩
theorem cell_keep {p : Addr} (hk : w'.heap[p.block]? = w.heap[p.block]?) {u : Value} (h : w.cell? p = some u) : w'.cell? p = some u := by
  unfold World.cell? at h ⊢
  rw [hk]
  exact h
theorem BkI.keep (h : BkI S b its rows I cI v vals w) (hk : ∀ k, S k → w'.heap[k]? = w.heap[k]?) (hs : w.heap.size ≤ w'.heap.size) : BkI S b its rows I cI v vals w' where
  lt := fun k hS => Nat.lt_of_lt_of_le (h.lt k hS) hs
  bx := (hk b h.sb).trans h.bx
  sb := h.sb
  items := h.items.keep fun p hp u hu => cell_keep (hk _ hp.1) hu
  own := own_keep h.own fun k e => hk k (h.sv k e)
  sv := h.sv
  row := fun i hi => by
    obtain ⟨A, c, h1, h2, h3⟩ := h.row i hi
    exact ⟨A, c, h1, h2, h3.keep fun p hp u hu => cell_keep (hk _ hp.1) hu⟩
theorem BkI.later (h : BkI S b its rows I cI v vals w) (hb : Below w.heap.size w w') : BkI S b its rows I cI v vals w' := h.keep (fun k hS => hb.block k (h.lt k hS)) hb.size
theorem BkW.later (h : BkW S b its rows w) (hb : Below w.heap.size w w') : BkW S b its rows w' := by
  obtain ⟨I, cI, v, vals, h⟩ := h
  exact ⟨I, cI, v, vals, h.later hb⟩
theorem BkW.fr {T : Nat → Prop} (h : BkW S b its rows w) (hf : Fr T w w') (hd : ∀ k, S k → ¬ T k) : BkW S b its rows w' := by
  obtain ⟨I, cI, v, vals, h⟩ := h
  exact ⟨I, cI, v, vals, h.keep (fun k hS => hf.block k (h.lt k hS) (hd k hS)) hf.size⟩
theorem BkI.c0 (h : BkI S b its rows I cI v vals w) : w.cell? ⟨b, 0, none⟩ = some (.slice I its.length cI) := h.bx.cell 0
theorem BkI.c1 (h : BkI S b its rows I cI v vals w) : w.cell? ⟨b, 1, none⟩ = some v := h.bx.cell 1
/-- The row of an item, as the walk meets it. -/
theorem BkI.at_ (h : BkI S b its rows I cI v vals w) {i : Nat} (hi : i < its.length) : ∃ g cP A c, v = .slice (some ⟨g, 0, none⟩) its.length cP ∧ w.cell? ⟨g, i, none⟩ = some (.slice A (rowAt rows i).length c) ∧ (rowAt rows i).length ≤ c ∧ Row w 0 A (pcells (rowAt rows i)) := by
  obtain ⟨A, c, h1, h2, h3⟩ := h.row i hi
  rcases h.own.2 with ⟨_, hn⟩ | ⟨g, cP, cur, rfl, _⟩
  · omega
  · refine ⟨g, cP, A, c, rfl, ?_, h2, h3.row⟩
    obtain ⟨ad, e, _, hc⟩ := Row.of_own h.own (by decide) (by have := (List.getElem?_eq_some_iff.1 h1).1; omega)
    cases e
    have := hc i _ h1
    rwa [addr_add, Nat.zero_add] at this
end

def inI (n : Nat) (item : Int) : Bool := decide (0 ≤ item) && decide (item < (n : Int))
theorem has_any {S : Nat → Prop} {b : Nat} {its : List It} {rows : List PRow} {w : World} (h : BkW S b its rows w) (item : Int) (r : Bool) (hr : inI its.length item = r) :
    Calls Try.prog 39 #[.pointer (some ⟨b, 0, none⟩), .int .i64 item] w fun e w' => e = .returned (.bool r) ∧ w = w' := by
  obtain ⟨I, cI, v, vals, h⟩ := h
  have c0 := h.c0
  clear h
  unfold inI at hr
  generalize its.length = n at *
  by_cases h0 : 0 ≤ item
  · rw [decide_eq_true h0, Bool.true_and] at hr
    have HR := Lib.hid hr
    clear hr
    go_enter Try.func39, Try.ntmps39
    go_wp2_with fail
    go_ret
    exact ⟨by rw [← HR.out]; rfl, rfl⟩
  · rw [decide_eq_false h0, Bool.false_and] at hr
    subst hr
    have h1 : item < 0 := by omega
    go_enter Try.func39, Try.ntmps39
    go_wp2_with fail
    go_ret
    exact ⟨rfl, rfl⟩
theorem find_any {S : Nat → Prop} {b : Nat} {its : List It} {rows : List PRow} {w : World} (h : BkW S b its rows w) (hk : BkOk its rows) {i : Nat} (hi : i < its.length) (d : Int) (p : Nat) (r : Bool) (hp : pos (rowAt rows i) d = p ∧ isAt (rowAt rows i) d = r) :
    Calls Try.prog 43 #[.pointer (some ⟨b, 0, none⟩), .int .i64 (i : Int), .int .i64 d] w fun e w' => e = .returned (.tuple #[.int .i64 (p : Int), .bool r]) ∧ Below w.heap.size w w' := by
  obtain ⟨I, cI, v, vals, h⟩ := h
  obtain ⟨g, cP, A, c, rfl, c2, _, hrow⟩ := h.at_ hi
  have c1 := h.c1
  have hro := hk.row i hi
  have HS := Lib.hid (fun c w' (hr : Row w' 0 A (pcells (rowAt rows i))) => search_any A (rowAt rows i) c d w' hr hro.asc (by have := hro.len; omega) p r hp)
  have HROW := Lib.hid hrow
  have hl := hk.len
  clear h hk hro hrow hp
  generalize (rowAt rows i).length = m at *
  generalize its.length = n at *
  have g0 : (0 : Int) ≤ (i : Int) := Int.natCast_nonneg _
  have g1 : (i : Int) < (n : Int) := by omega
  go_enter Try.func43, Try.ntmps43
  go_wp2_with fail
  refine (HS.out _ _ HROW.out).mono ?_
  rintro e w1 ⟨rfl, hb⟩
  have HB := Lib.hid hb
  clear hb
  go_wp2_with fail
  go_ret2
  exact ⟨rfl, HB.out⟩
def priceE (n : Nat) (item day : Int) : Int := if inI n item = true then (if day < 0 then 1 else 0) else 5
def priceN (its : List It) (rows : List PRow) (item day : Int) : Int := if priceE its.length item day = 0 then priceAt (rowAt rows item.toNat) day else 0
theorem first_le {r : PRow} (h : RowOk r) {day : Int} (hd : 0 ≤ day) : ∃ p ∈ r, p.1 ≤ day := by
  obtain ⟨p, hp, e⟩ := h.first
  exact ⟨p, hp, by omega⟩
theorem price_any {S : Nat → Prop} {b : Nat} {its : List It} {rows : List PRow} {w : World} (h : BkW S b its rows w) (hk : BkOk its rows) (item day : Int) (x y : Int) (hx : priceN its rows item day = x ∧ priceE its.length item day = y) :
    Calls Try.prog 31 #[.pointer (some ⟨b, 0, none⟩), .int .i64 item, .int .i64 day] w fun e w' => e = .returned (.tuple #[.int .i64 x, .int .i64 y]) ∧ Below w.heap.size w w' := by
  obtain ⟨hx, hy⟩ := hx
  unfold priceN at hx
  rw [hy] at hx
  unfold priceE at hy
  cases hin : inI its.length item with
  | false =>
    rw [hin] at hy
    simp at hy
    subst hy
    simp at hx
    subst hx
    have HH := Lib.hid (has_any h item false hin)
    clear h hk hin
    go_enter Try.func31, Try.ntmps31
    go_wp2_with fail
    refine HH.out.mono ?_
    rintro e w1 ⟨rfl, rfl⟩
    go_wp2_with fail
    go_ret2
    exact ⟨rfl, Below.refl _ _⟩
  | true =>
    rw [hin, if_pos rfl] at hy
    have HH := Lib.hid (has_any h item true hin)
    unfold inI at hin
    simp only [Bool.and_eq_true, decide_eq_true_eq] at hin
    obtain ⟨i, rfl⟩ := Int.eq_ofNat_of_zero_le hin.1
    have hi : i < its.length := by omega
    by_cases hd : day < 0
    · rw [if_pos hd] at hy
      subst hy
      simp at hx
      subst hx
      clear h hk hin hi
      go_enter Try.func31, Try.ntmps31
      go_wp2_with fail
      refine HH.out.mono ?_
      rintro e w1 ⟨rfl, rfl⟩
      go_wp2_with fail
      go_ret2
      exact ⟨rfl, Below.refl _ _⟩
    · rw [if_neg hd] at hy
      subst hy
      rw [if_pos rfl, Int.toNat_natCast] at hx
      unfold priceAt at hx
      obtain ⟨hlt, _⟩ := told_lt (hk.row i hi).asc (first_le (hk.row i hi) (show 0 ≤ day by omega))
      obtain ⟨p, hp⟩ : ∃ p, pos (rowAt rows i) day = p := ⟨_, rfl⟩
      obtain ⟨r, hr⟩ : ∃ r, isAt (rowAt rows i) day = r := ⟨_, rfl⟩
      have HF := Lib.hid (find_any h hk hi day p r ⟨hp, hr⟩)
      unfold told at hlt hx
      rw [hp, hr] at hlt hx
      have hpos : r = false → 1 ≤ p := fun e => by
        have := told_lt (hk.row i hi).asc (first_le (hk.row i hi) (show 0 ≤ day by omega))
        obtain ⟨_, ht⟩ := this
        obtain ⟨q, hq, hq0⟩ := (hk.row i hi).first
        obtain ⟨j, hj, he⟩ := mem_get hq
        have h1 := (pos_iff (hk.row i hi).asc day j hj)
        rw [hp] at h1
        have h2 : dayAt (rowAt rows i) j = 0 := by rw [← hq0, he]
        have h3 : dayAt (rowAt rows i) j ≠ day := fun c => by
          have : isAt (rowAt rows i) day = true := (isAt_iff (hk.row i hi).asc day).2 ⟨_, by rw [← c]; exact get_mem hj⟩
          rw [hr, e] at this; cases this
        have := h1.1 (by omega)
        omega
      obtain ⟨I, cI, v, vals, h⟩ := h
      have hlen := (hk.row i hi).len
      have hl := hk.len
      have HB := Lib.hid h
      have HI := Lib.hid hi
      have HX := Lib.hid hx
      have g0 : (0 : Int) ≤ (i : Int) := Int.natCast_nonneg _
      obtain ⟨n, hn⟩ : ∃ n, its.length = n := ⟨_, rfl⟩
      have HN := Lib.hid hn
      have g1 : (i : Int) < (n : Int) := by omega
      rw [hn] at hl
      clear h hk hin hp hr hx hn hi
      go_enter Try.func31, Try.ntmps31
      go_wp2_with fail
      refine HH.out.mono ?_
      rintro e w1 ⟨rfl, rfl⟩
      go_wp2_with fail
      refine HF.out.mono ?_
      rintro e w1 ⟨rfl, hb⟩
      have HB2 := Lib.hid (HB.out.later hb)
      have HBE := Lib.hid hb
      clear hb
      obtain ⟨g, cP, A, c, rfl, c2, _, hrow⟩ := HB2.out.at_ HI.out
      have c1 := HB2.out.c1
      have HROW := Lib.hid hrow
      rw [HN.out] at c1
      clear hrow
      cases r
      · have hp1 := hpos rfl
        rw [if_neg (by simp)] at hlt
        rw [if_neg (by simp)] at HX
        obtain ⟨ad, rfl, c3, c4⟩ := p_cells HROW.out hlt
        rw [HX.out] at c4
        generalize (rowAt rows i).length = m at *
        have g2 : (0 : Int) ≤ (p : Int) - 1 := by omega
        have g3 : (p : Int) - 1 < (m : Int) := by omega
        have g4 : ((p : Int) - 1).toNat = p - 1 := by omega
        have g5 : 1 ≤ p := hp1
        clear hpos hlt
        go_wp2_with fail
        go_ret2
        exact ⟨rfl, HBE.out⟩
      · rw [if_pos rfl] at hlt
        rw [if_pos rfl] at HX
        obtain ⟨ad, rfl, c3, c4⟩ := p_cells HROW.out hlt
        rw [HX.out] at c4
        generalize (rowAt rows i).length = m at *
        have g2 : (0 : Int) ≤ (p : Int) := by omega
        have g3 : (p : Int) < (m : Int) := by omega
        clear hpos
        go_wp2_with fail
        go_ret2
        exact ⟨rfl, HBE.out⟩
end Go.Proofs.Ytbdhbongaikphaa.BK
