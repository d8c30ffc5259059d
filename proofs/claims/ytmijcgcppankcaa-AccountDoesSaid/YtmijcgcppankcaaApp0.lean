/- An append of nothing; what a row says of its cells. Over any program. -/
import Derived.Test.YtmijcgcppankcaaRowC
import Derived.Test.YtmijcgcppankcaaConsiderB
import Derived.Test.YtmijcgcppankcaaStepsMath2
namespace Go.Proofs.Ytmijcgcppankcaa.PO
open Go.RowKit Go.Proofs.Ytmijcgcppankcaa.Cents Go.Proofs.Ytmijcgcppankcaa.CO
set_option linter.unusedVariables false

theorem run_append_none {P : Program} (w : World) {t ty e : TypeId} {i : TypeInfo} (ht : P.underlying t = some (.slice e)) (hi : P.info? e = some i) (A B : Option Addr) (n c d : Nat) (hn : n ≤ c) :
    (Builtin.append_ #[t, t] ty #[.slice A n c, .slice B 0 d]).run P w = .ok (.slice A n c) w := by
  cases A <;> cases B <;> simp [Builtin.append_, run_underlying ht, sizeOf, typeInfo, hi, Builtin.lenOf, Builtin.firstCells, loadCells, loadCellsFrom, storeCells, hn]
theorem wpList_app0 {P : Program} {w : World} {t e size bytes : Nat} (hE : ElemT P t e size bytes) {ops : Array Oper} {rest : List Oper} {o : Oper} {a : Act} {Q : Exit → Act → World → Prop} (hgd : o.guard = none) (s x : Operand)
    (ho : o.op = .call { callee := .builtin .append, args := #[s, x], argTypes := #[t, t] }) {A B : Option Addr} {n c d : Nat} (hs : a.eval s = .slice A n c) (hx : a.eval x = .slice B 0 d) (hn : n ≤ c)
    (h : wpList P ops Q rest (a.put o.dst (.slice A n c)) w) : wpList P ops Q (o :: rest) a w := by
  obtain ⟨i, z, hu, hi, hz, hsz, hby, hzs, hpos⟩ := hE.ex
  refine wpList_plain hgd fun _ hK => ?_
  unfold Oper.wp execOp
  simp only [ho, resolve, invoke, builtin, Sem.run_bind, Sem.run_pure, Result.andThen_ok, List.map_toArray, List.map_cons, List.map_nil, hs, hx, run_append_none w hu hi A B n c d hn]
  exact hK _ _ h
theorem own_cap {w : World} {base e size n c : Nat} {A : Option Addr} {xs : List Value} (h : w.ownsRow base e size (.slice A n c) n xs) : n ≤ c := by
  rcases h.2 with ⟨hv, hn⟩ | ⟨g, cap, cur, hv, _, _, hc, _⟩
  · injection hv with _ h1 h2; omega
  · injection hv with _ h1 h2; omega
theorem row_news {w : World} {b : Nat} {ad : Addr} {xs : List Value} (h : Row w b (some ad) xs) : ∀ j u, xs[j]? = some u → w.cell? (ad.add j) = some u := fun j u hu => by
  obtain ⟨ad', e, _, hc⟩ := h (by have := (List.getElem?_eq_some_iff.1 hu).1; omega)
  cases e
  exact hc j u hu
theorem row_dn {w : World} {A : Option Addr} {xs : List Value} (h : Row w 0 A xs) (q : Nat) : Row (w.drewN q) 0 A xs := h.below (Quiet.below ⟨q, rfl⟩)
theorem ones (l : List Int) : ∀ u ∈ ints l, u.oneCell' = true := by
  intro u hu
  simp only [ints, List.mem_map] at hu
  obtain ⟨x, _, rfl⟩ := hu
  rfl
theorem AllW.more {w0 w w1 : World} {out xs : List Int} {v v' : Value} {n m N : Nat} (h : AllW w0 out v w) (hn : out.length = n) (hm : xs.length = m) (hN : n + m = N) (hown : w1.ownsRow w0.heap.size 2 1 v' N (ints out ++ ints xs)) (hg : w.grownBy w1 v.ownBlock) : AllW w0 (out ++ xs) v' w1 := by
  refine ⟨?_, h.be.grown hg h.be.size (fun j hj => by have := (h.own.lt j hj).1; omega)⟩
  rw [List.length_append, hm, hn, hN, show ints (out ++ xs) = ints out ++ ints xs by simp [ints]]
  exact hown
theorem wi_I {ms : List Int} {x : Int} {k : Nat} (h : ∀ y ∈ ms, I64 y) (hx : I64 x) : ∀ y ∈ wi ms x k, I64 y := by
  intro y hy
  simp only [wi, List.mem_append, List.mem_singleton] at hy
  rcases hy with (hy | hy) | hy
  · exact h y (List.mem_of_mem_take hy)
  · rw [hy]; exact hx
  · exact h y (List.mem_of_mem_drop hy)
theorem Put.e4 {ms : List Int} {W x : Int} {k : Nat} (h : Put ms W x k) (h1 : 64 < ms.length + 1) : stE W (wi ms x k) = 4 := by
  unfold stE
  rw [if_pos (by rw [wi_len h.hk]; exact h1)]
theorem Put.e0 {ms : List Int} {W x : Int} {k : Nat} (h : Put ms W x k) (hW : 1 ≤ W) (h1 : ¬ 64 < ms.length + 1) : stE W (wi ms x k) = 0 :=
  stE_up (by rw [wi_len h.hk]; omega) hW h.ups
end Go.Proofs.Ytmijcgcppankcaa.PO
