/- The walk of a book's Set. -/
import Derived.Test.YtleocecfcamjnaaBookC
import Derived.Deep.RegionLawGrows
import Derived.Deep.RegionHeld3
namespace Go.Proofs.Ytleocecfcamjnaa.BK
open Go.RowKit Go.Proofs.Ytleocecfcamjnaa.Cents
set_option linter.unusedVariables false
set_option linter.unusedSimpArgs false

/-- An append to a full slice, at a step of a region that draws its order. -/
theorem step_grows {P : Program} {w : World} {t e size bytes : Nat} (hE : ElemT P t e size bytes) {ops : Array Oper} {o : Oper} {a : Act} {K : Act → World → Prop} {Q : Exit → Act → World → Prop} {E : Prop} (hgd : o.guard = none) (s x : Operand)
    (ho : o.op = .call { callee := .builtin .append, args := #[s, x], argTypes := #[t, t] }) {bb : Addr} {n : Nat} {olds : List Value} (hs : a.eval s = .slice (some bb) n n) (hlo : olds.length = n * size) (holds : ∀ j u, olds[j]? = some u → w.cell? (bb.add j) = some u)
    (ad : Addr) (m c : Nat) (news : List Value) (hx : a.eval x = .slice (some ad) m c) (hl : news.length = m * size) (hnews : ∀ j u, news[j]? = some u → w.cell? (ad.add j) = some u) (h1 : ∀ u ∈ news, u.oneCell' = true)
    (hbytes : (n + m) * bytes ≤ 140737488355328) (h63 : n + m ≤ maxLen) (hm : 0 < m)
    (h : ∀ g cap w', w'.ownsRow w.heap.size e size (.slice (some ⟨g, 0, none⟩) (n + m) cap) (n + m) (olds ++ news) → w.grownBy w' none → K (a.put o.dst (.slice (some ⟨g, 0, none⟩) (n + m) cap)) w') :
    if Region.wanted o (yielded ops a.tmps) = true then Oper.wp P o a w K Q else E := by
  obtain ⟨i, z, hu, hi, hz, hsz, hby, hzs, hpos⟩ := hE.ex
  refine step_append_grows hgd s x t ho e i z size bytes hu hi hz hsz hby hzs hpos (some bb) n n olds hs (fun h => by cases h) hlo (fun b hb => by cases hb; exact holds) ad m c news hx hl hnews h1 (by omega) h63 hbytes fun v' w' hown hg => ?_
  rcases hown.2 with ⟨_, h0⟩ | ⟨g, cap, cur, rfl, _⟩
  · omega
  · exact h g cap w' hown hg
theorem run_append_none {P : Program} (w : World) {t ty e : TypeId} {i : TypeInfo} (ht : P.underlying t = some (.slice e)) (hi : P.info? e = some i) (A B : Option Addr) (n c d : Nat) (hn : n ≤ c) :
    (Builtin.append_ #[t, t] ty #[.slice A n c, .slice B 0 d]).run P w = .ok (.slice A n c) w := by
  cases A <;> cases B <;> simp [Builtin.append_, run_underlying ht, sizeOf, typeInfo, hi, Builtin.lenOf, Builtin.firstCells, loadCells, loadCellsFrom, storeCells, hn]
theorem step_app0 {P : Program} {w : World} {t e size bytes : Nat} (hE : ElemT P t e size bytes) {ops : Array Oper} {o : Oper} {a : Act} {K : Act → World → Prop} {Q : Exit → Act → World → Prop} {E : Prop} (hgd : o.guard = none) (s x : Operand)
    (ho : o.op = .call { callee := .builtin .append, args := #[s, x], argTypes := #[t, t] }) {A B : Option Addr} {n c d : Nat} (hs : a.eval s = .slice A n c) (hx : a.eval x = .slice B 0 d) (hn : n ≤ c)
    (h : K (a.put o.dst (.slice A n c)) w) : if Region.wanted o (yielded ops a.tmps) = true then Oper.wp P o a w K Q else E := by
  obtain ⟨i, z, hu, hi, hz, hsz, hby, hzs, hpos⟩ := hE.ex
  have hw : Region.wanted o (yielded ops a.tmps) = true := by simp [Region.wanted, hgd]
  rw [if_pos hw]
  unfold Oper.wp execOp
  simp only [ho, resolve, invoke, builtin, Sem.run_bind, Sem.run_pure, Result.andThen_ok, List.map_toArray, List.map_cons, List.map_nil, hs, hx, run_append_none w hu hi A B n c d hn]
  exact h
theorem own_le {w : World} {base e size n c : Nat} {A : Option Addr} {xs : List Value} (h : w.ownsRow base e size (.slice A n c) n xs) : n ≤ c := by
  rcases h.2 with ⟨hv, hn⟩ | ⟨g, cap, cur, hv, _, _, hc, _⟩
  · injection hv with _ h1 h2; omega
  · injection hv with _ h1 h2; omega
/-- What Set leaves. -/
def SetRet (S : Nat → Prop) (b : Nat) (its : List It) (rows : List PRow) (w : World) (x : Int) (e : Ending) (w' : World) : Prop :=
  e = .returned (.int .i64 x) ∧ ∃ S', BkW S' b its rows w' ∧ Fr S w w' ∧ (∀ k, S k → S' k) ∧ ∀ k, S' k → S k ∨ w.heap.size ≤ k
theorem set_bad {S : Nat → Prop} {b : Nat} {its : List It} {rows : List PRow} {w : World} (h : BkW S b its rows w) (hk : BkOk its rows) (item day n x : Int) (hx : setE its rows item day n = x) (hne : x ≠ 0) :
    Calls Try.prog 10 #[.pointer (some ⟨b, 0, none⟩), .int .i64 item, .int .i64 day, .int .i64 n] w fun e w' => e = .returned (.int .i64 x) ∧ Below w.heap.size w w' := by
  unfold setE at hx
  cases hin : inI its.length item with
  | false =>
    rw [hin] at hx
    simp at hx
    subst hx
    have HH := Lib.hid (has_any h item false hin)
    clear h hk hin
    go_enter Try.func10, Try.ntmps10
    go_wp2_with fail
    refine HH.out.mono ?_
    rintro e w1 ⟨rfl, rfl⟩
    go_wp2_with fail
    go_ret
    exact ⟨rfl, Below.refl _ _⟩
  | true =>
    rw [hin, if_pos rfl] at hx
    have HH := Lib.hid (has_any h item true hin)
    unfold inI at hin
    simp only [Bool.and_eq_true, decide_eq_true_eq] at hin
    obtain ⟨i, rfl⟩ := Int.eq_ofNat_of_zero_le hin.1
    have hi : i < its.length := by omega
    by_cases hd : day < 1 ∨ 1000000 < day ∨ n < 1
    · rw [if_pos hd] at hx
      subst hx
      clear h hk hin hi
      by_cases d1 : day < 1
      · clear hd
        go_enter Try.func10, Try.ntmps10
        go_wp2_with fail
        refine HH.out.mono ?_
        rintro e w1 ⟨rfl, rfl⟩
        go_wp2_with fail
        go_ret
        exact ⟨rfl, Below.refl _ _⟩
      by_cases d2 : 1000000 < day
      · clear hd
        go_enter Try.func10, Try.ntmps10
        go_wp2_with fail
        refine HH.out.mono ?_
        rintro e w1 ⟨rfl, rfl⟩
        go_wp2_with fail
        go_ret
        exact ⟨rfl, Below.refl _ _⟩
      have d3 : n < 1 := by omega
      clear hd
      go_enter Try.func10, Try.ntmps10
      go_wp2_with fail
      refine HH.out.mono ?_
      rintro e w1 ⟨rfl, rfl⟩
      go_wp2_with fail
      go_ret
      exact ⟨rfl, Below.refl _ _⟩
    · rw [if_neg hd, Int.toNat_natCast] at hx
      obtain ⟨p, hp⟩ : ∃ p, pos (rowAt rows i) day = p := ⟨_, rfl⟩
      obtain ⟨r, hr⟩ : ∃ r, isAt (rowAt rows i) day = r := ⟨_, rfl⟩
      have HF := Lib.hid (find_any h hk hi day p r ⟨hp, hr⟩)
      rw [hr] at hx
      obtain ⟨I, cI, v, vals, h⟩ := h
      obtain ⟨g, cP, A, c, rfl, c2, _, hrow⟩ := h.at_ hi
      have c1 := h.c1
      have hl := hk.len
      have hlen := (hk.row i hi).len
      generalize (rowAt rows i).length = m at *
      generalize its.length = k at *
      have d1 : ¬ day < 1 := by omega
      have d2 : ¬ 1000000 < day := by omega
      have d3 : ¬ n < 1 := by omega
      have g0 : (0 : Int) ≤ (i : Int) := Int.natCast_nonneg _
      have g1 : (i : Int) < (k : Int) := by omega
      clear hd h hk hrow hp hr hin
      cases r
      · rw [if_neg (by simp)] at hx
        by_cases hm : 100 < m
        · rw [if_pos hm] at hx
          subst hx
          have g3 : (100 : Int) < (m : Int) := by omega
          go_enter Try.func10, Try.ntmps10
          go_wp2_with fail
          refine HH.out.mono ?_
          rintro e w1 ⟨rfl, rfl⟩
          go_wp2_with fail
          refine HF.out.mono ?_
          rintro e w1 ⟨rfl, hb⟩
          have HB := Lib.hid hb
          clear hb
          go_wp2_with fail
          go_ret
          exact ⟨rfl, HB.out⟩
        · rw [if_neg hm] at hx
          exact absurd hx.symm hne
      · rw [if_pos rfl] at hx
        subst hx
        go_enter Try.func10, Try.ntmps10
        go_wp2_with fail
        refine HH.out.mono ?_
        rintro e w1 ⟨rfl, rfl⟩
        go_wp2_with fail
        refine HF.out.mono ?_
        rintro e w1 ⟨rfl, hb⟩
        have HB := Lib.hid hb
        clear hb
        go_wp2_with fail
        go_ret
        exact ⟨rfl, HB.out⟩

theorem set_done {S : Nat → Prop} {b : Nat} {its : List It} {rows : List PRow} {I : Option Addr} {cI : Nat} {vals : List Value} {w w3 : World} {g cP i B g3 cap N : Nat} {r' : PRow}
    (h : BkI S b its rows I cI (.slice (some ⟨g, 0, none⟩) its.length cP) vals w) (hb : Below w.heap.size w w3) (hi : i < its.length) (hrl : rows.length = its.length) (hB : w.heap.size ≤ B) (hN : r'.length = N)
    (hown : w3.ownsRow B 59 2 (.slice (some ⟨g3, 0, none⟩) N cap) N (pcells r')) :
    SetRet S b its (rows.set i r') w 0 (.returned (.int .i64 0)) (w3.setCell ⟨g, i, none⟩ (.slice (some ⟨g3, 0, none⟩) N cap)) := by
  subst hN
  have hr : RowF w3 (fun q => w.heap.size ≤ q) (some ⟨g3, 0, none⟩) (pcells r') := (Row.of_own hown (by decide)).rowF fun k hk _ => Nat.le_trans hB hk
  have hc : r'.length ≤ cap := by
    rcases hown.2 with ⟨e, _⟩ | ⟨g', cap', cur, e, _, _, hc, _⟩
    · cases e
    · cases e; exact hc
  refine ⟨rfl, _, ⟨I, cI, _, _, (h.later hb).put hi hrl h.lt hb.size hr hc⟩, (Fr.later hb).setCell (fun _ => h.sv g rfl) _, fun k hk => .inl hk, fun k hk => ?_⟩
  rcases hk with hk | hk
  · exact .inl hk
  · exact .inr hk.1
set_option maxHeartbeats 2000000 in
set_option maxRecDepth 100000 in
theorem set_ok {S : Nat → Prop} {b : Nat} {its : List It} {rows : List PRow} {w : World} (h : BkW S b its rows w) (hk : BkOk its rows) (item day n : Int) (hx : setE its rows item day n = 0) :
    Calls Try.prog 10 #[.pointer (some ⟨b, 0, none⟩), .int .i64 item, .int .i64 day, .int .i64 n] w (SetRet S b its (setR its rows item day n) w 0) := by
  have hR : setR its rows item day n = rows.set item.toNat (put (rowAt rows item.toNat) day n) := by unfold setR; rw [if_pos hx]
  rw [hR]
  unfold setE at hx
  cases hin : inI its.length item with
  | false => rw [hin] at hx; simp at hx
  | true =>
    rw [hin, if_pos rfl] at hx
    have HH := Lib.hid (has_any h item true hin)
    unfold inI at hin
    simp only [Bool.and_eq_true, decide_eq_true_eq] at hin
    obtain ⟨i, rfl⟩ := Int.eq_ofNat_of_zero_le hin.1
    have hi : i < its.length := by omega
    by_cases hd : day < 1 ∨ 1000000 < day ∨ n < 1
    · rw [if_pos hd] at hx; omega
    rw [if_neg hd, Int.toNat_natCast] at hx
    rw [Int.toNat_natCast]
    obtain ⟨p, hp⟩ : ∃ p, pos (rowAt rows i) day = p := ⟨_, rfl⟩
    obtain ⟨r, hr⟩ : ∃ r, isAt (rowAt rows i) day = r := ⟨_, rfl⟩
    have HF := Lib.hid (find_any h hk hi day p r ⟨hp, hr⟩)
    have hpl := pos_le (rowAt rows i) day
    rw [hr] at hx
    cases r
    case true => rw [if_pos rfl] at hx; omega
    rw [if_neg (by simp)] at hx
    have hm : ¬ 100 < (rowAt rows i).length := fun c => by rw [if_pos c] at hx; omega
    have hput := pcells_put (rowAt rows i) day n
    have hplen := put_len (rowAt rows i) day n
    rw [hp] at hput hpl
    have HPUT := Lib.hid hput
    have HPL := Lib.hid hplen
    have hk1 := hk.len
    have hk2 := hk.rlen
    obtain ⟨I, cI, v, vals, h⟩ := h
    have hlt := h.lt
    obtain ⟨g, cP, A, c, rfl, c2, hcm, hrow⟩ := h.at_ hi
    have c1 := h.c1
    have HK := Lib.hid h
    have HROW := Lib.hid hrow
    have HI := Lib.hid hi
    have HLT := Lib.hid hlt
    have HRL := Lib.hid hk2
    have hone : 1 ≤ (rowAt rows i).length := by
      obtain ⟨q, hq, _⟩ := (hk.row i hi).first
      exact List.length_pos_of_mem hq
    obtain ⟨ad, rfl, _⟩ := p_cells hrow (j := 0) (by omega)
    obtain ⟨m, hmm⟩ : ∃ m, (rowAt rows i).length = m := ⟨_, rfl⟩
    obtain ⟨k, hkk⟩ : ∃ k, its.length = k := ⟨_, rfl⟩
    have HMM := Lib.hid hmm
    have HKK := Lib.hid hkk
    rw [hmm] at hpl hm c2 hcm
    rw [hkk] at hk1 c1 hin hi
    have d1 : ¬ day < 1 := by omega
    have d2 : ¬ 1000000 < day := by omega
    have d3 : ¬ n < 1 := by omega
    have g0 : (0 : Int) ≤ (i : Int) := Int.natCast_nonneg _
    have g1 : (i : Int) < (k : Int) := by omega
    have g3 : ¬ (100 : Int) < (m : Int) := by omega
    have g4 : (0 : Int) ≤ (p : Int) := Int.natCast_nonneg _
    have g5 : (p : Int) ≤ (m : Int) := by omega
    have g6 : (p : Int) ≤ (c : Int) := by omega
    have g7 : (m : Int) ≤ (c : Int) := by omega
    rw [hmm] at hone
    clear hd h hk hrow hp hr hin hx hput hplen hk2 hR hmm hkk hlt
    go_enter Try.func10, Try.ntmps10
    go_wp2_with fail
    refine HH.out.mono ?_
    rintro e w1 ⟨rfl, rfl⟩
    go_wp2_with fail
    refine HF.out.mono ?_
    rintro e w1 ⟨rfl, hb⟩
    have HB := Lib.hid hb
    have c3 : w1.cell? ⟨b, 1, none⟩ = some (.slice (some ⟨g, 0, none⟩) k cP) := cell_below' hb c1
    have c4 : w1.cell? ⟨g, i, none⟩ = some (.slice (some ad) m c) := cell_below' hb c2
    clear hb c1 c2
    have hb1' : (p + 1) * 16 ≤ 140737488355328 := by omega
    have hb2' : p + 1 ≤ maxLen := by unfold maxLen; omega
    have hb3' : (p + 1 + (m - p)) * 16 ≤ 140737488355328 := by omega
    have hb4' : p + 1 + (m - p) ≤ maxLen := by unfold maxLen; omega
    have hl1 : (pcells ((rowAt rows i).take p)).length = p * 2 := by rw [pcells_len, List.length_take, HMM.out]; omega
    have hl2 : (pcells ((rowAt rows i).drop p)).length = (m - p) * 2 := by rw [pcells_len, List.length_drop, HMM.out]
    have hold : ∀ W, Below w1.heap.size w1 W → ∀ j u, (pcells ((rowAt rows i).take p))[j]? = some u → W.cell? (ad.add j) = some u := fun W hW j u hu => by
      obtain ⟨ad', e, _, hc⟩ := HROW.out.below HB.out (by rw [pcells_len, HMM.out]; omega)
      cases e
      refine cell_below' hW (hc j u ?_)
      rw [pcells_take, List.getElem?_take] at hu
      split at hu
      · exact hu
      · cases hu
    have hnew : ∀ W, Below w1.heap.size w1 W → ∀ j u, (pcells ((rowAt rows i).drop p))[j]? = some u → W.cell? ((ad.add (p * 2)).add j) = some u := fun W hW j u hu => by
      obtain ⟨ad', e, _, hc⟩ := HROW.out.below HB.out (by rw [pcells_len, HMM.out]; omega)
      cases e
      rw [pcells_drop, List.getElem?_drop] at hu
      rw [Addr.add_add]
      exact cell_below' hW (hc _ u hu)
    have HOLD := Lib.hid hold
    have HNEW := Lib.hid hnew
    have HL1 := Lib.hid hl1
    have HL2 := Lib.hid hl2
    clear hold hnew hl1 hl2
    have d7 : w1.frozen? ⟨g, i, none⟩ = false := own_free (HK.out.later HB.out).own i
    have hgb : g ≠ b := fun e => own_box HK.out.own HK.out.bx (by decide) (by rw [← e]; rfl)
    have C3 := Lib.hid c3
    have C4 := Lib.hid c4
    by_cases hpm : p < m
    · have hpc : ¬ c = p := by omega
      go_wp2_with fail
      go_region_held3 (fun W => W.cell? ⟨b, 1, none⟩ = some (.slice (some ⟨g, 0, none⟩) k cP))
        (first | exact c3 | exact (World.cell?_setCell_far _ _ _ _ hgb).trans c3 | exact cell_below' (alloc1 w1 _) C3.out | exact cell_below' (Below.drew (alloc1 w1 _)) C3.out)
        (first
          | (refine step_grows E_pr rfl (.tmp 54) (.tmp 58) rfl rfl HL1.out (HOLD.out _ (Below.drew (alloc1 w1 _))) ⟨w1.heap.size, 0, none⟩ 1 1 [.int .i64 day, .int .i64 n] rfl rfl (World.news_of_block (heap_alloc_new w1 _)) (by simp [Value.oneCell']) hb1' hb2' (by decide) ?_; intro g2 cap2 w2 hown hgrow; have HO2 := Lib.hid hown; have hb2 := (Below.drew (alloc1 w1 (.cells #[.int .i64 day, .int .i64 n] 59))).grown hgrow (by simp) (fun j hj => by cases hj); have HB2 := Lib.hid hb2; have c3 : w2.cell? ⟨b, 1, none⟩ = some (.slice (some ⟨g, 0, none⟩) k cP) := cell_below' hb2 C3.out; have c4 : w2.cell? ⟨g, i, none⟩ = some (.slice (some ad) m c) := cell_below' hb2 C4.out; clear hown hgrow hb2)
          | (refine step_app E_pr rfl (.tmp 59) (.tmp 62) rfl rfl HO2.out (ad.add (p * 2)) (m - p) (c - p) (pcells ((rowAt rows i).drop p)) rfl HL2.out (HNEW.out _ HB2.out) (pcells_one _) hb3' hb4' (Nat.le_trans (HO2.out.lt g2 rfl).1 (Nat.le_of_lt (HO2.out.lt g2 rfl).2)) (by omega) w2.heap.size rfl ?_; intro g3 cap3 w3 hown hgrow _ _; have HO3 := Lib.hid hown; have hb3 := HB2.out.grown hgrow HB2.out.size (fun j hj => by have := (HO2.out.lt j hj).1; simp at this; omega); have HB3 := Lib.hid hb3; have c3 : w3.cell? ⟨b, 1, none⟩ = some (.slice (some ⟨g, 0, none⟩) k cP) := cell_below' HB3.out C3.out; have c4 : w3.cell? ⟨g, i, none⟩ = some (.slice (some ad) m c) := cell_below' HB3.out C4.out; have d7 : w3.frozen? ⟨g, i, none⟩ = false := own_free ((HK.out.later HB.out).later HB3.out).own i; clear hown hgrow hb3))
      all_goals
        go_wp2_with fail
        go_ret
        have hown := HO3.out
        rw [List.append_assoc, ← List.append_assoc, ← HPUT.out] at hown
        exact set_done HK.out (HB.out.trans (HB3.out.mono HB.out.size)) HI.out HRL.out (Nat.le_trans HB.out.size (by simp)) (by rw [HPL.out, HMM.out]; omega) hown
    · have hpe : p = m := by omega
      have hd : pcells ((rowAt rows i).drop p) = [] := by
        rw [List.drop_of_length_le (by rw [HMM.out]; omega)]; rfl
      have HD := Lib.hid hd
      clear hd hpm
      subst hpe
      by_cases hpc : c = p
      · go_wp2_with fail
        go_region_held3 (fun W => W.cell? ⟨b, 1, none⟩ = some (.slice (some ⟨g, 0, none⟩) k cP))
          (first | exact c3 | exact (World.cell?_setCell_far _ _ _ _ hgb).trans c3 | exact cell_below' (alloc1 w1 _) C3.out | exact cell_below' (Below.drew (alloc1 w1 _)) C3.out)
          (first
            | (refine step_grows E_pr rfl (.tmp 54) (.tmp 58) rfl rfl HL1.out (HOLD.out _ (Below.drew (alloc1 w1 _))) ⟨w1.heap.size, 0, none⟩ 1 1 [.int .i64 day, .int .i64 n] rfl rfl (World.news_of_block (heap_alloc_new w1 _)) (by simp [Value.oneCell']) hb1' hb2' (by decide) ?_; intro g2 cap2 w2 hown hgrow; have HO2 := Lib.hid hown; have hb2 := (Below.drew (alloc1 w1 (.cells #[.int .i64 day, .int .i64 n] 59))).grown hgrow (by simp) (fun j hj => by cases hj); have HB2 := Lib.hid hb2; have c3 : w2.cell? ⟨b, 1, none⟩ = some (.slice (some ⟨g, 0, none⟩) k cP) := cell_below' hb2 C3.out; have c4 : w2.cell? ⟨g, i, none⟩ = some (.slice (some ad) p c) := cell_below' hb2 C4.out; have d7 : w2.frozen? ⟨g, i, none⟩ = false := own_free ((HK.out.later HB.out).later hb2).own i; clear hown hgrow hb2)
            | (refine step_app0 (A := some ⟨g2, 0, none⟩) (n := p + 1) (c := cap2) E_pr rfl (.tmp 59) (.tmp 62) rfl rfl (by simp [Act.eval, Act.put]; first | rfl | exact ⟨rfl, rfl⟩) (own_le HO2.out) ?_))
        all_goals
          go_wp2_with fail
          go_ret
          have hown := HO2.out
          have hput := HPUT.out
          rw [HD.out, List.append_nil] at hput
          rw [← hput] at hown
          exact set_done HK.out (HB.out.trans (HB2.out.mono HB.out.size)) HI.out HRL.out (Nat.le_trans HB.out.size (by simp)) (by rw [HPL.out, HMM.out]) hown
      · go_wp2_with fail
        go_region_held3 (fun W => W.cell? ⟨b, 1, none⟩ = some (.slice (some ⟨g, 0, none⟩) k cP))
          (first | exact c3 | exact (World.cell?_setCell_far _ _ _ _ hgb).trans c3 | exact cell_below' (alloc1 w1 _) C3.out | exact cell_below' (Below.drew (alloc1 w1 _)) C3.out)
          (first
            | (refine step_grows E_pr rfl (.tmp 54) (.tmp 58) rfl rfl HL1.out (HOLD.out _ (Below.drew (alloc1 w1 _))) ⟨w1.heap.size, 0, none⟩ 1 1 [.int .i64 day, .int .i64 n] rfl rfl (World.news_of_block (heap_alloc_new w1 _)) (by simp [Value.oneCell']) hb1' hb2' (by decide) ?_; intro g2 cap2 w2 hown hgrow; have HO2 := Lib.hid hown; have hb2 := (Below.drew (alloc1 w1 (.cells #[.int .i64 day, .int .i64 n] 59))).grown hgrow (by simp) (fun j hj => by cases hj); have HB2 := Lib.hid hb2; have c3 : w2.cell? ⟨b, 1, none⟩ = some (.slice (some ⟨g, 0, none⟩) k cP) := cell_below' hb2 C3.out; have c4 : w2.cell? ⟨g, i, none⟩ = some (.slice (some ad) p c) := cell_below' hb2 C4.out; have d7 : w2.frozen? ⟨g, i, none⟩ = false := own_free ((HK.out.later HB.out).later hb2).own i; clear hown hgrow hb2)
            | (refine step_app0 (A := some ⟨g2, 0, none⟩) (n := p + 1) (c := cap2) E_pr rfl (.tmp 59) (.tmp 62) rfl rfl (by simp [Act.eval, Act.put]; first | rfl | exact ⟨rfl, rfl⟩) (own_le HO2.out) ?_))
        all_goals
          go_wp2_with fail
          go_ret
          have hown := HO2.out
          have hput := HPUT.out
          rw [HD.out, List.append_nil] at hput
          rw [← hput] at hown
          exact set_done HK.out (HB.out.trans (HB2.out.mono HB.out.size)) HI.out HRL.out (Nat.le_trans HB.out.size (by simp)) (by rw [HPL.out, HMM.out]) hown
end Go.Proofs.Ytleocecfcamjnaa.BK
