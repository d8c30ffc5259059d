/- Rows: an argument that is a slice of operations, each with a slice of postings, opened; and one operation by value. -/
import Derived.Test.YtmijcgcppankcaaRowS
import Derived.Test.YtmijcgcppankcaaRowKit
import Derived.Test.YtmijcgcppankcaaAcctU
import Derived.Lib.SmallJoins
namespace Go.Proofs.Ytmijcgcppankcaa.AC
open Go.Joins Go.ChangeShapes Go.WideShapes Go.RowKit Go.Deep Go.Proofs.Ytmijcgcppankcaa.Net Go.Proofs.Ytmijcgcppankcaa.Cents
set_option linter.unusedVariables false
set_option linter.unusedSimpArgs false

/-- A slice of structs of k one-cell fields, inside of something: without its size. -/
theorem open_rowN {α : Type} (f : α → List Value) (Q : α → Prop) (k : Nat) (hf : ∀ x, (f x).length = k) (hk : 0 < k) {H : Type} {enc : TypeId × Value → H} {P : Program} {W : World} {base : Nat} {spare : Nat → Bool} {held : Bool} {t e : TypeId} {fs : Array Field} {fuel : Nat} {cs : List Value} {z : DataW H × List MemPlace}
    (hu : P.underlying t = some (.slice e)) (he : P.underlying e = some (.struct fs)) (hone : oneCellFields P fs = true) (hC : P.cellsOf e = fs.size) (hfs : fs.size = k)
    (hdec : ∀ (c : Nat → Value → Prop) (n : Nat), (∀ (j : Nat) (g : Field), fs[j]? = some g → ∃ (v : Value) (y : DataW H × List MemPlace), c j v ∧ DataW.trod enc P W base spare held n g.type [v] = some y) → ∃ x, Q x ∧ ∀ j u, (f x)[j]? = some u → c j u)
    (h : DataW.trod enc P W base spare held fuel t cs = some z) : ∃ (A : Option Addr) (cap : Nat) (xs : List α), cs = [.slice A xs.length cap] ∧ Row W 0 A (xs.flatMap f) ∧ (∀ x ∈ xs, Q x) ∧ xs.length ≤ maxLen := by
  rcases open_slice_fields hu he hone hC h with ⟨hcs, _⟩ | ⟨x, len, cap, m, D, Pl, hcs, _, hl, hm, hmm, hx, hi⟩
  · exact ⟨none, 0, [], hcs, Row.none_, by simp, Nat.zero_le _⟩
  · have hlm : len ≤ m := by rw [hmm]; split <;> omega
    obtain ⟨xs, hxl, hq⟩ := list_of (fun i y => Q y ∧ ∀ j u, (f y)[j]? = some u → W.cell? (x.add (i * k + j)) = some u) len (fun i hil => by
      obtain ⟨ys, n, _, _, _, hg⟩ := hi i (by omega)
      refine hdec (fun j u => W.cell? (x.add (i * k + j)) = some u) n (fun j g hj => ?_)
      obtain ⟨v, y, h1, _, h3⟩ := hg j g hj
      rw [hfs] at h1
      exact ⟨v, y, h1, h3⟩)
    refine ⟨some x, cap, xs, by rw [hcs, hxl], fun _ => ⟨x, rfl, Nat.zero_le _, fun q u hu => ?_⟩, fun y hy => ?_, by rw [hxl]; omega⟩
    · have hql : q < xs.length * k := by
        have := (List.getElem?_eq_some_iff.1 hu).1
        rwa [flat_len hf] at this
      have h1 : q / k < xs.length := Nat.div_lt_of_lt_mul (by rw [Nat.mul_comm]; exact hql)
      have h2 : q % k < k := Nat.mod_lt _ hk
      have h3 : q / k * k + q % k = q := by rw [Nat.mul_comm]; exact Nat.div_add_mod q k
      have h4 := flat_at hf h1 (q % k) h2
      rw [h3, hu] at h4
      have := (hq (q / k) xs[q / k] (List.getElem?_eq_getElem h1)).2 (q % k) u h4.symm
      rwa [h3] at this
    · obtain ⟨i, hil, e⟩ := List.getElem_of_mem hy
      exact (hq i y (by rw [List.getElem?_eq_getElem hil, e])).1
theorem open_pss {H : Type} {enc : TypeId × Value → H} {W : World} {base : Nat} {spare : Nat → Bool} {held : Bool} {fuel : Nat} {v : Value} {z : DataW H × List MemPlace}
    (h : DataW.trod enc Try.prog W base spare held fuel 32 [v] = some z) : ∃ (A : Option Addr) (cap : Nat) (ps : List Net.Post), v = .slice A ps.length cap ∧ Row W 0 A (Net.cells ps) ∧ (∀ p ∈ ps, Post.I p) ∧ ps.length ≤ maxLen := by
  obtain ⟨A, cap, xs, h1, h2, h3, h4⟩ := open_rowN Net.Post.cells Post.I 3 (fun _ => rfl) (by omega) Try.underlying32 Try.underlying48 (by kernel_rfl) (by kernel_rfl) rfl (fun c n hf => by
    obtain ⟨v0, y0, c0, t0⟩ := hf 0 _ rfl
    obtain ⟨v1, y1, c1, t1⟩ := hf 1 _ rfl
    obtain ⟨v2, y2, c2, t2⟩ := hf 2 _ rfl
    obtain ⟨x0, e0, _, w0⟩ := DataW.trod_int Try.underlying3 t0
    obtain ⟨x1, e1, _, w1⟩ := DataW.trod_int Try.underlying3 t1
    obtain ⟨x2, e2, _, w2⟩ := DataW.trod_int Try.underlying2 t2
    obtain rfl : v0 = _ := by simpa using e0
    obtain rfl : v1 = _ := by simpa using e1
    obtain rfl : v2 = _ := by simpa using e2
    refine ⟨⟨x0, x1, x2⟩, ⟨Cents.i64_wf w0, Cents.i64_wf w1, Cents.i64_wf w2⟩, fun j u hu => ?_⟩
    match j with
    | 0 => obtain rfl : _ = u := by simpa [Net.Post.cells] using hu
           exact c0
    | 1 => obtain rfl : _ = u := by simpa [Net.Post.cells] using hu
           exact c1
    | 2 => obtain rfl : _ = u := by simpa [Net.Post.cells] using hu
           exact c2
    | k + 3 => simp [Net.Post.cells] at hu) h
  exact ⟨A, cap, xs, by simpa using h1, h2, h3, h4⟩
theorem open_ops {H : Type} {enc : TypeId × Value → H} {W : World} {base : Nat} {spare : Nat → Bool} {held : Bool} {a : Option Addr} {len cap : Nat} {d : DataW H} {ps : List MemPlace} {ts : List TypeId} {ds : List (DataW H)} {j : Nat}
    (hsz : (DataW.weightsEach Try.prog ts ds).all (· ≤ reachBytes) = true) (ht : ts[j]? = some 22) (hd : ds[j]? = some d)
    (h : DataW.Trod enc Try.prog W base spare held 22 (.slice a len cap) d ps) : ∃ xs : List OpV, len = xs.length ∧ Row W 0 a (xs.flatMap OpV.cell) ∧ (∀ o ∈ xs, OpV.Q W o) ∧ xs.length * 48 ≤ 140737488351232 :=
  open_rowS OpV.cell (OpV.Q W) 4 op_len (by omega) hsz ht hd Try.underlying22 Try.underlying34 (by kernel_rfl) (by kernel_rfl) rfl (by kernel_rfl) (fun c n hf => by
    obtain ⟨v0, y0, c0, t0⟩ := hf 0 _ rfl
    obtain ⟨v1, y1, c1, t1⟩ := hf 1 _ rfl
    obtain ⟨v2, y2, c2, t2⟩ := hf 2 _ rfl
    obtain ⟨v3, y3, c3, t3⟩ := hf 3 _ rfl
    obtain ⟨x0, e0, _, w0⟩ := DataW.trod_int Try.underlying3 t0
    obtain ⟨x1, e1, _, w1⟩ := DataW.trod_int Try.underlying3 t1
    obtain ⟨x2, e2, _, w2⟩ := DataW.trod_int Try.underlying3 t2
    obtain ⟨A3, c3', ps3, e3, r3, i3, l3⟩ := open_pss t3
    obtain rfl : v0 = _ := by simpa using e0
    obtain rfl : v1 = _ := by simpa using e1
    obtain rfl : v2 = _ := by simpa using e2
    subst e3
    refine ⟨⟨x0, x1, x2, A3, c3', ps3⟩, ⟨Cents.i64_wf w0, Cents.i64_wf w1, Cents.i64_wf w2, r3, i3, l3⟩, fun j u hu => ?_⟩
    match j with
    | 0 => obtain rfl : _ = u := by simpa [OpV.cell] using hu
           exact c0
    | 1 => obtain rfl : _ = u := by simpa [OpV.cell] using hu
           exact c1
    | 2 => obtain rfl : _ = u := by simpa [OpV.cell] using hu
           exact c2
    | 3 => obtain rfl : _ = u := by simpa [OpV.cell] using hu
           exact c3
    | k + 4 => simp [OpV.cell] at hu) h
theorem open_fields4 {H : Type} {enc : TypeId × Value → H} {P : Program} {w : World} {base : Nat} {spare : Nat → Bool} {held : Bool} {r : Reach} {b0 : Nat} {t : TypeId} {f0 f1 f2 f3 : Field} {v : Value} {d : DataW H} {p : List MemPlace} (hs : P.underlying t = some (.struct #[f0, f1, f2, f3])) (hone : oneCellFields P #[f0, f1, f2, f3] = true) (hC : P.cellsOf t = 4)
    (hv : Value.okWide P w r b0 t v) (h : DataW.Trod enc P w base spare held t v d p) :
    ∃ (v0 v1 v2 v3 : Value) (y0 y1 y2 y3 : DataW H × List MemPlace) (n : Nat), v = .agg #[v0, v1, v2, v3] ∧ DataW.trod enc P w base spare held n f0.type [v0] = some y0 ∧ DataW.trod enc P w base spare held n f1.type [v1] = some y1 ∧ DataW.trod enc P w base spare held n f2.type [v2] = some y2 ∧ DataW.trod enc P w base spare held n f3.type [v3] = some y3 := by
  obtain ⟨cs, rfl, hsz⟩ := okWide_struct hs hv
  obtain ⟨l⟩ := cs
  match l, hsz.trans hC with
  | [c0, c1, c2, c3], _ =>
    obtain ⟨fuel, hf⟩ := h
    obtain ⟨xs, n, _, hx, _, hlen, hg⟩ := DataW.trod_struct hs hf
    obtain ⟨o0, k0⟩ := hone_of hone 0 f0 rfl
    obtain ⟨o1, k1⟩ := hone_of hone 1 f1 rfl
    obtain ⟨o2, k2⟩ := hone_of hone 2 f2 rfl
    obtain ⟨o3, k3⟩ := hone_of hone 3 f3 rfl
    match xs, hlen with
    | [y0, y1, y2, y3], _ =>
      exact ⟨c0, c1, c2, c3, y0, y1, y2, y3, n, rfl, by simpa [Value.cells, o0, k0] using hg 0 f0 rfl, by simpa [Value.cells, o1, k1] using hg 1 f1 rfl, by simpa [Value.cells, o2, k2] using hg 2 f2 rfl, by simpa [Value.cells, o3, k3] using hg 3 f3 rfl⟩
theorem open_op {H : Type} {enc : TypeId × Value → H} {W : World} {r : Reach} {b0 base : Nat} {spare : Nat → Bool} {held : Bool} {v : Value} {d : DataW H} {p : List MemPlace}
    (hv : Value.okWide Try.prog W r b0 34 v) (h : DataW.Trod enc Try.prog W base spare held 34 v d p) : ∃ o : OpV, v = o.val ∧ OpV.Q W o := by
  obtain ⟨v0, v1, v2, v3, y0, y1, y2, y3, n, rfl, t0, t1, t2, t3⟩ := open_fields4 Try.underlying34 (by kernel_rfl) (by kernel_rfl) hv h
  obtain ⟨x0, e0, _, w0⟩ := DataW.trod_int Try.underlying3 t0
  obtain rfl : v0 = _ := by simpa using e0
  obtain ⟨x1, e1, _, w1⟩ := DataW.trod_int Try.underlying3 t1
  obtain rfl : v1 = _ := by simpa using e1
  obtain ⟨x2, e2, _, w2⟩ := DataW.trod_int Try.underlying3 t2
  obtain rfl : v2 = _ := by simpa using e2
  obtain ⟨A3, c3', ps3, rfl, r3, i3, l3⟩ := open_pss t3
  exact ⟨⟨x0, x1, x2, A3, c3', ps3⟩, rfl, ⟨Cents.i64_wf w0, Cents.i64_wf w1, Cents.i64_wf w2, r3, i3, l3⟩⟩
end Go.Proofs.Ytmijcgcppankcaa.AC
