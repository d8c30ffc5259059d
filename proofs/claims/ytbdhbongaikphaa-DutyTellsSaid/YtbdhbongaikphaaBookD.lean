/- The walk of a book's Set. -/
import Derived.Test.YtbdhbongaikphaaBookC
import Derived.Deep.RegionLawGrows
import Derived.Deep.RegionHeld3
namespace Go.Proofs.Ytbdhbongaikphaa.BK
open Go.RowKit Go.Proofs.Ytbdhbongaikphaa.Cents
set_option linter.unusedVariables false
set_option linter.unusedSimpArgs false

/-- An append to a full slice, at a step of a region that draws its order. -/
theorem step_grows {P : Program} {w : World} {t e size bytes : Nat} (hE : ElemT P t e size bytes) {ops : Array Oper} {o : Oper} {a : Act} {K : Act → World → Prop} {Q : Exit → Act → World → Prop} {E : Prop} (hgd : o.guard = none) (s x : Operand)
    (ho : o.op = .call { callee := .builtin .append, args := #[s, x], argTypes := #[t, t] }) {bb : Addr} {n : Nat} {olds : List Value} (hs : a.eval s = .slice (some bb) n n) (hlo : olds.length = n * size) (holds : ∀ j u, olds[j]? = some u → w.cell? (bb.add j) = some u)
    (ad : Addr) (m c : Nat) (news : List Value) (hx : a.eval x = .slice (some ad) m c) (hl : news.length = m * size) (hnews : ∀ j u, news[j]? = some u → w.cell? (ad.add j) = some u) (h1 : ∀ u ∈ news, u.oneCell' = true)
    (hbytes : (n + m) * bytes ≤ 140737488355328) (h63 : n + m ≤ maxLen) (hm : 0 < m)
    (h : ∀ g cap w', w'.ownsRow w.heap.size e size (.slice (some ⟨g, 0, none⟩) (n + m) cap) (n + m) (olds ++ news) → w.grownBy w' none → K (a.put o.dst (.slice (some ⟨g, 0, none⟩) (n + m) cap)) w') :
    if Region.wanted o (yielded ops a.tmps) = true then Oper.wp P o a w K Q else E := by
  obtain ⟨i, z, hu, hi, hz, hsz, hby, hzs, hpos⟩ := hE.ex
  refine step_append_grows hgd s x t ho e i z size bytes hu hi hz hsz hby hzs hpos (some bb) n n olds hs (fun h => by cases h) hlo (fun b hb => by cases hb; exact holds) ad m c news hx hl hnews h1 (by omega) h63 hbytes fun v' w' hown hg => ?_
  rcases hown.2 with ⟨_, h0⟩ | ⟨g, cap, cur, rfl, _⟩
  · omega
  · exact h g cap w' hown hg
theorem run_append_none {P : Program} (w : World) {t ty e : TypeId} {i : TypeInfo} (ht : P.underlying t = some (.slice e)) (hi : P.info? e = some i) (A B : Option Addr) (n c d : Nat) (hn : n ≤ c) :
    (Builtin.append_ #[t, t] ty #[.slice A n c, .slice B 0 d]).run P w = .ok (.slice A n c) w := by
  cases A <;> cases B <;> simp [Builtin.append_, run_underlying ht, sizeOf, typeInfo, hi, Builtin.lenOf, Builtin.firstCells, loadCells, loadCellsFrom, storeCells, hn]
theorem step_app0 {P : Program} {w : World} {t e size bytes : Nat} (hE : ElemT P t e size bytes) {ops : Array Oper} {o : Oper} {a : Act} {K : Act → World → Prop} {Q : Exit → Act → World → Prop} {E : Prop} (hgd : o.guard = none) (s x : Operand)
    (ho : o.op = .call { callee := .builtin .append, args := #[s, x], argTypes := #[t, t] }) {A B : Option Addr} {n c d : Nat} (hs : a.eval s = .slice A n c) (hx : a.eval x = .slice B 0 d) (hn : n ≤ c)
    (h : K (a.put o.dst (.slice A n c)) w) : if Region.wanted o (yielded ops a.tmps) = true then Oper.wp P o a w K Q else E := by
  obtain ⟨i, z, hu, hi, hz, hsz, hby, hzs, hpos⟩ := hE.ex
  have hw : Region.wanted o (yielded ops a.tmps) = true := by simp [Region.wanted, hgd]
  rw [if_pos hw]
  unfold Oper.wp execOp
  simp only [ho, resolve, invoke, builtin, Sem.run_bind, Sem.run_pure, Result.andThen_ok, List.map_toArray, List.map_cons, List.map_nil, hs, hx, run_append_none w hu hi A B n c d hn]
  exact h
theorem own_le {w : World} {base e size n c : Nat} {A : Option Addr} {xs : List Value} (h : w.ownsRow base e size (.slice A n c) n xs) : n ≤ c := by
  rcases h.2 with ⟨hv, hn⟩ | ⟨g, cap, cur, hv, _, _, hc, _⟩
  · injection hv with _ h1 h2; omega
  · injection hv with _ h1 h2; omega
/-- What Set leaves. -/
def SetRet (S : Nat → Prop) (b : Nat) (its : List It) (rows : List PRow) (w : World) (x : Int) (e : Ending) (w' : World) : Prop :=
  e = .returned (.int .i64 x) ∧ ∃ S', BkW S' b its rows w' ∧ Fr S w w' ∧ (∀ k, S k → S' k) ∧ ∀ k, S' k → S k ∨ w.heap.size ≤ k
theorem set_done {S : Nat → Prop} {b : Nat} {its : List It} {rows : List PRow} {I : Option Addr} {cI : Nat} {vals : List Value} {w w3 : World} {g cP i B g3 cap N : Nat} {r' : PRow}
    (h : BkI S b its rows I cI (.slice (some ⟨g, 0, none⟩) its.length cP) vals w) (hb : Below w.heap.size w w3) (hi : i < its.length) (hrl : rows.length = its.length) (hB : w.heap.size ≤ B) (hN : r'.length = N)
    (hown : w3.ownsRow B 58 2 (.slice (some ⟨g3, 0, none⟩) N cap) N (pcells r')) :
    SetRet S b its (rows.set i r') w 0 (.returned (.int .i64 0)) (w3.setCell ⟨g, i, none⟩ (.slice (some ⟨g3, 0, none⟩) N cap)) := by
  subst hN
  have hr : RowF w3 (fun q => w.heap.size ≤ q) (some ⟨g3, 0, none⟩) (pcells r') := (Row.of_own hown (by decide)).rowF fun k hk _ => Nat.le_trans hB hk
  have hc : r'.length ≤ cap := by
    rcases hown.2 with ⟨e, _⟩ | ⟨g', cap', cur, e, _, _, hc, _⟩
    · cases e
    · cases e; exact hc
  refine ⟨rfl, _, ⟨I, cI, _, _, (h.later hb).put hi hrl h.lt hb.size hr hc⟩, (Fr.later hb).setCell (fun _ => h.sv g rfl) _, fun k hk => .inl hk, fun k hk => ?_⟩
  rcases hk with hk | hk
  · exact .inl hk
  · exact .inr hk.1
end Go.Proofs.Ytbdhbongaikphaa.BK
