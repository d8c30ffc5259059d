/- The keys of account's maps: a place (an account of a contract), and a contract. -/
import Derived.Test.YtmijcgcppankcaaMapV
import Derived.Test.YtmijcgcppankcaaNetS
import Derived.WideKeyEntry
import Derived.DeepKeys4
import Derived.Test.YtmijcgcppankcaaOwn
import Derived.Test.YtmijcgcppankcaaIs01
import Derived.StillTailTactics
import Derived.BigQuiet
import Derived.Test.YtmijcgcppankcaaMem2
import Derived.Deep.RegionHeld3
import Derived.Laws.CopyOwn
import Derived.Lib.SliceRun
namespace Go.Proofs.Ytmijcgcppankcaa.AC
open Go.RowKit Go.Proofs.Ytmijcgcppankcaa.Cents Go.Proofs.Ytmijcgcppankcaa.MV Go.Proofs.Ytmijcgcppankcaa.Net
open Go.Maps (Keyed)
set_option linter.unusedVariables false
set_option linter.unusedSimpArgs false

theorem laidOut0 : laidOutB Try.prog = true := by kernel_rfl
theorem wide_pl : (match Try.prog.underlying 74 with | some (.array _ _) | some (.struct _) => true | _ => false) = true := by kernel_rfl
theorem row_pl : (74 : TypeId) < Try.prog.types.size := of_decide_eq_true (by kernel_rfl)
theorem law_pl : WideMaps.KeyLaw Try.prog 74 := deep_law_laid laidOut0 (m := 2) (by omega) row_pl (by kernel_rfl) wide_pl
theorem keyed_pl : Keyed Try.prog 74 := Keyed.of_law law_pl
theorem keyed_i : Keyed Try.prog 3 := Maps.int_keyed Try.underlying3
theorem wfI {a : Int} (h : I64 a) : (Lit.int .i64 a).wf = true := by
  unfold I64 at h
  have h1 : IntKind.i64.min = -9223372036854775808 := by decide
  have h2 : IntKind.i64.max = 9223372036854775807 := by decide
  simp [Lit.wf, h1, h2]
  omega
theorem wfI' {a : Int} (h : (Lit.int .i64 a).wf = true) : I64 a := by
  have h1 : IntKind.i64.min = -9223372036854775808 := by decide
  have h2 : IntKind.i64.max = 9223372036854775807 := by decide
  simp [Lit.wf, h1, h2] at h
  unfold I64
  omega
def ilit (a : Int) : Lit := .int .i64 a
theorem ikey {a : Int} (h : I64 a) : keyOf Try.prog 3 (.int .i64 a) = some (ilit a) := Maps.keyOf_int_mk Try.underlying3 (wfI h)
def plit (a b : Int) : Lit := .string (keyBytes [.int .i64 a, .int .i64 b])
theorem pkeyT : Try.prog.keyType 74 = true := by kernel_rfl
theorem pcells : Try.prog.cellsOf 74 = 2 := by kernel_rfl
theorem icells : Try.prog.cellsOf 3 = 1 := by kernel_rfl
theorem lits_int (d : Nat) (v : Value) : Try.prog.keyLits (d + 1) 3 [v] = match v with | .int .i64 n => if (Lit.int .i64 n).wf = true then some [.int .i64 n] else none | _ => none := by
  unfold Program.keyLits
  rw [Try.underlying3]
  cases v <;> try rfl
  rename_i q n
  cases q <;> simp
theorem lits_pl (d : Nat) (u v : Value) : Try.prog.keyLits (d + 2) 74 [u, v] = (Try.prog.keyLits (d + 1) 3 [u]).bind fun l => (Try.prog.keyLits (d + 1) 3 [v]).map fun l' => l ++ l' := by
  conv => lhs; unfold Program.keyLits
  rw [Try.underlying74]
  simp only [pcells]
  simp [icells]
  cases Try.prog.keyLits (d + 1) 3 [u] <;> cases Try.prog.keyLits (d + 1) 3 [v] <;> simp
theorem cells_fewer (cs : List Value) (d : Nat) (h : (Try.prog.keyLits (d + 2) 74 cs).isSome = true) : cs.length = 2 := by
  unfold Program.keyLits at h
  rw [Try.underlying74] at h
  simp only [pcells] at h
  split at h
  · rename_i h2; exact h2.1
  · cases h
theorem pkey {a b : Int} (ha : I64 a) (hb : I64 b) : keyOf Try.prog 74 (.agg #[.int .i64 a, .int .i64 b]) = some (plit a b) := by
  unfold keyOf
  rw [Try.underlying74]
  simp only [pkeyT, Value.formed, Try.underlying74, pcells, Value.cells]
  obtain ⟨m, hm⟩ : ∃ m, Try.prog.types.size + 1 = m + 2 := ⟨Try.prog.types.size - 1, by kernel_rfl⟩
  rw [hm, lits_pl, lits_int, lits_int]
  simp [wfI ha, wfI hb, plit]
theorem pkey_inv (key : Value) (kl : Lit) (h : keyOf Try.prog 74 key = some kl) : ∃ x : Int × Int, key = .agg #[.int .i64 x.1, .int .i64 x.2] := by
  unfold keyOf at h
  rw [Try.underlying74] at h
  simp only at h
  obtain ⟨m, hm⟩ : ∃ m, Try.prog.types.size + 1 = m + 2 := ⟨Try.prog.types.size - 1, by kernel_rfl⟩
  rw [hm] at h
  split at h
  · rename_i hf
    cases key with
    | agg cs =>
      simp only [Value.cells] at h
      have h2 := cells_fewer cs.toList m (by
        cases hk : Try.prog.keyLits (m + 2) 74 cs.toList with
        | none => rw [hk] at h; cases h
        | some _ => rfl)
      obtain ⟨l⟩ := cs
      match l, h2 with
      | [u, v], _ =>
        rw [show ({ toList := [u, v] } : Array Value).toList = [u, v] from rfl, lits_pl, lits_int, lits_int] at h
        obtain ⟨a, rfl⟩ : ∃ a, u = .int .i64 a := by
          cases u with
          | int q n => cases q <;> first | exact ⟨_, rfl⟩ | (exfalso; simp at h)
          | _ => exfalso; simp at h
        obtain ⟨b, rfl⟩ : ∃ b, v = .int .i64 b := by
          cases v with
          | int q n => cases q <;> first | exact ⟨_, rfl⟩ | (exfalso; simp at h)
          | _ => exfalso; simp at h
        exact ⟨(a, b), rfl⟩
    | _ => simp [Value.formed, Try.underlying74] at hf
  · cases h
theorem plit_inj {a b c d : Int} (ha : I64 a) (hb : I64 b) (hc : I64 c) (hd : I64 d) (h : plit a b = plit c d) : a = c ∧ b = d := by
  have h1 := pkey ha hb
  rw [h] at h1
  have h2 := keyed_pl.inj h1 (pkey hc hd)
  injection h2 with h2
  have h3 : (Value.int .i64 a) = .int .i64 c ∧ (Value.int .i64 b) = .int .i64 d := by simpa using h2
  exact ⟨by injection h3.1, by injection h3.2⟩
theorem pkey_back {a b : Int} {kl : Lit} (h : keyOf Try.prog 74 (.agg #[.int .i64 a, .int .i64 b]) = some kl) : I64 a ∧ I64 b ∧ kl = plit a b := by
  have h0 := h
  unfold keyOf at h
  rw [Try.underlying74] at h
  simp only [pkeyT, Value.formed, Try.underlying74, pcells, Value.cells] at h
  obtain ⟨m, hm⟩ : ∃ m, Try.prog.types.size + 1 = m + 2 := ⟨Try.prog.types.size - 1, by kernel_rfl⟩
  rw [hm, lits_pl, lits_int, lits_int] at h
  by_cases h1 : (Lit.int .i64 a).wf = true
  · by_cases h2 : (Lit.int .i64 b).wf = true
    · have := pkey (wfI' h1) (wfI' h2)
      rw [this] at h0
      injection h0 with h0
      exact ⟨wfI' h1, wfI' h2, h0.symm⟩
    · simp [h1, h2] at h
  · simp [h1] at h
theorem ikey_back {a : Int} {kl : Lit} (h : keyOf Try.prog 3 (.int .i64 a) = some kl) : I64 a ∧ kl = ilit a := by
  by_cases h1 : (Lit.int .i64 a).wf = true
  · rw [ikey (wfI' h1)] at h
    injection h with h
    exact ⟨wfI' h1, h.symm⟩
  · obtain ⟨x, hx, hl, hw⟩ := Maps.keyOf_int_inv Try.underlying3 h
    injection hx with _ hx
    rw [hx] at h1
    exact absurd hw h1
theorem ikey_inv (key : Value) (kl : Lit) (h : keyOf Try.prog 3 key = some kl) : ∃ x : Int, key = .int .i64 x := by
  obtain ⟨x, rfl, _⟩ := Maps.keyOf_int_inv Try.underlying3 h
  exact ⟨x, rfl⟩
section
variable {P : Program} {k : TypeId} {m n : Nat} {f : KF} {w w' : World}
theorem mapV_same (h : MapV P k m n f w) (he : w'.heap[m]? = w.heap[m]?) : MapV P k m n f w' := by
  obtain ⟨D, ⟨es, clock, hb, r⟩, ht⟩ := h
  exact ⟨D, ⟨es, clock, he.trans hb, r⟩, ht⟩
theorem grown_setBlock {w : World} {b : Nat} {y : Obj} {es : Array MapEntry} {clock : Nat} (hb : w.heap[b]? = some (.map es clock)) : w.grownBy (ChangeMaps.setBlock w b y) (some b) :=
  ⟨rfl, rfl, rfl, by simp [ChangeMaps.setBlock], fun i _ hi => ChangeMaps.heap_setBlock_other hb _ (fun e => hi (by rw [e]))⟩
/-- 'm[k] op= x' by its two operations. -/
theorem mapV_entry (h : MapV P k m n f w) {t e : TypeId} (L : WideMaps.KeyLaw P k) (K : Keyed P k) (ht : P.underlying t = some (.map k e)) (hz : ∀ u : World, (zeroValue e).run P u = .ok (.slice none 0 0) u) (hn : n < maxLen) {key : Value} {kl : Lit} (hkey : keyOf P k key = some kl) :
    ∃ (st : Nat) (w1 : World), (Instr.mapEntry t (.map (some m)) key).run P w = .ok (.tuple #[(f kl).getD (.slice none 0 0), goInt st]) w1 ∧ w.grownBy w1 (some m) ∧ w1.heap.size = w.heap.size ∧ (∃ es clock, w1.heap[m]? = some (.map es clock)) ∧
      ∀ (w2 : World) (A : Option Addr) (a c : Nat), w2.heap[m]? = w1.heap[m]? → ∃ w3, (Instr.entryStore t (.map (some m)) (goInt st) (.slice A a c)).run P w2 = .ok () w3 ∧ MapV P k m (n + 1) (upd f kl (.slice A a c)) w3 ∧ w2.grownBy w3 (some m) := by
  have h0 := h
  obtain ⟨D, h, hd⟩ := h
  obtain ⟨es, clock, hb, F, hs, hD⟩ := id h
  obtain ⟨v0, st, es1, clock1, hrun, hv0, hstore⟩ := WideElems.entry_then_store L ht hz hb F hkey
  have hv : v0 = (f kl).getD (.slice none 0 0) := by
    have hd2 := hd kl (K.key hkey) (.held (.slice none 0 0))
    rw [hD] at hd2
    rcases hv0 with ⟨e0, he0, hk, rfl⟩ | ⟨hno, rfl⟩
    · obtain ⟨y0, hy0⟩ := F.reads e0 he0
      obtain ⟨z, hz0, _⟩ := WideElems.rd_val hy0
      have := WideElems.atKey_some L F hkey he0 hk hz0 (.held (.slice none 0 0))
      obtain ⟨A, a, c, hs0, hy⟩ := asSl_inv hz0
      rw [this] at hd2
      rw [hs0]
      rw [hy] at hd2
      cases hf : f kl with
      | none => rw [hf] at hd2; simp only at hd2; injection hd2
      | some u => (rw [hf] at hd2; simp only at hd2; injection hd2)
    · have := WideElems.atKey_none L F hkey hno (.held (.slice none 0 0))
      rw [this] at hd2
      cases hf : f kl with
      | none => rfl
      | some u => rw [hf] at hd2; simp only at hd2; injection hd2
  subst hv
  have hlt : m < w.heap.size := h0.lt
  refine ⟨st, _, hrun, grown_setBlock hb, by simp [ChangeMaps.setBlock], ⟨_, _, ChangeMaps.heap_setBlock_same hb _⟩, fun w2 A a c he => ?_⟩
  have hb1 : (ChangeMaps.setBlock w m (.map es1 clock1)).heap[m]? = some (.map es1 clock1) := ChangeMaps.heap_setBlock_same hb _
  rw [hb1] at he
  obtain ⟨es', clock', hr1, hr2⟩ := hstore w2 (.slice A a c) he
  obtain ⟨w4, hr3, hm3, _⟩ := h0.put K ht hn hkey A a c
  rw [hr2] at hr3
  injection hr3 with _ hr3
  subst hr3
  refine ⟨_, hr1, mapV_same hm3 ?_, grown_setBlock he⟩
  rw [ChangeMaps.heap_setBlock_same he _, ChangeMaps.heap_setBlock_same hb _]
end
theorem ilit_inj {a b : Int} (h : ilit a = ilit b) : a = b := by unfold ilit at h; injection h
section
open Go.RowKit Go.Proofs.Ytmijcgcppankcaa.Cents Go.Proofs.Ytmijcgcppankcaa.MV Go.Proofs.Ytmijcgcppankcaa.Net Go.Proofs.Ytmijcgcppankcaa.CO
open Go.Maps (Keyed)
set_option linter.unusedVariables false
set_option linter.unusedSimpArgs false

abbrev Post.I (p : Post) : Prop := I64 p.acc ∧ I64 p.ct ∧ I64 p.amt
def mayP (a c : Int) : Prop := 0 ≤ a ∧ a < 4 ∧ 0 ≤ c ∧ c < 40
instance (a c : Int) : Decidable (mayP a c) := by unfold mayP; infer_instance
theorem may_is (a c : Int) (w : World) (b : Bool) (hb : decide (mayP a c) = b) :
    Calls Try.prog 47 #[.agg #[.int .i64 a, .int .i64 c]] w fun e w' => e = .returned (.bool b) ∧ Below w.heap.size w w' := by
  have HB := Lib.hid hb
  unfold mayP at hb
  clear hb
  by_cases h1 : 0 ≤ a
  · by_cases h2 : a < 4
    · by_cases h3 : 0 ≤ c
      · by_cases h4 : c < 40
        · have e1 : b = true := by rw [← HB.out]; simp [mayP, h1, h2, h3, h4]
          subst e1
          clear HB
          go_enter Try.func47, Try.ntmps47
          go_wp2
          go_ret
          exact ⟨rfl, (Below.refl _ _).alloc (Nat.le_refl _) _⟩
        · have e1 : b = false := by rw [← HB.out]; simp [mayP, h4]
          subst e1
          clear HB
          go_enter Try.func47, Try.ntmps47
          go_wp2
          go_ret
          exact ⟨rfl, (Below.refl _ _).alloc (Nat.le_refl _) _⟩
      · have e1 : b = false := by rw [← HB.out]; simp [mayP, h3]
        subst e1
        clear HB
        go_enter Try.func47, Try.ntmps47
        go_wp2
        go_ret
        exact ⟨rfl, (Below.refl _ _).alloc (Nat.le_refl _) _⟩
    · have e1 : b = false := by rw [← HB.out]; simp [mayP, h2]
      subst e1
      clear HB
      go_enter Try.func47, Try.ntmps47
      go_wp2
      go_ret
      exact ⟨rfl, (Below.refl _ _).alloc (Nat.le_refl _) _⟩
  · have e1 : b = false := by rw [← HB.out]; simp [mayP, h1]
    subst e1
    clear HB
    go_enter Try.func47, Try.ntmps47
    go_wp2
    go_ret
    exact ⟨rfl, (Below.refl _ _).alloc (Nat.le_refl _) _⟩
theorem no_clo (a c x : Int) (w : World) (b : Bool) (hb : decide (¬ mayP a c) = b) :
    Calls Try.prog 46 #[.agg #[.int .i64 a, .int .i64 c, .int .i64 x]] w fun e w' => e = .returned (.bool b) ∧ Below w.heap.size w w' := by
  have hm : decide (mayP a c) = !b := by rw [← hb]; simp
  have HM := Lib.hid (fun w1 => may_is a c w1 (!b) hm)
  clear hb hm
  go_enter Try.func46, Try.ntmps46
  go_wp2_with fail
  refine (HM.out _).mono ?_
  rintro e w1 ⟨rfl, hb⟩
  have HB := Lib.hid ((Below.refl w.heap.size w).alloc (Nat.le_refl _) (.cells #[.int .i64 a, .int .i64 c, .int .i64 x] 48))
  have HB2 := Lib.hid (HB.out.trans (hb.mono HB.out.size))
  clear hb
  go_wp2_with fail
  go_ret
  exact ⟨by simp, HB2.out⟩
def noAny (ps : List Post) : Bool := ps.any (fun p => decide (¬ mayP p.acc p.ct))
theorem noAny_take {ps : List Post} {j : Nat} (h : j < ps.length) : noAny (ps.take (j + 1)) = (noAny (ps.take j) || decide (¬ mayP ps[j].acc ps[j].ct)) := by
  unfold noAny
  rw [take_end h, List.any_append]
  simp
set_option maxHeartbeats 1000000 in
set_option maxRecDepth 100000 in
theorem index_no (A : Option Addr) (ps : List Post) (c : Nat) (w : World) (hr : Row w 0 A (cells ps)) (hl : ps.length ≤ 1000000) (b : Bool) (hb : noAny ps = b) :
    Calls Try.prog 51 #[.slice A ps.length c, .func (.func 46) #[] #[]] w fun e w' => ∃ x : Int, e = .returned (.int .i64 x) ∧ decide (0 ≤ x) = b ∧ Below w.heap.size w w' := by
  have HR := Lib.hid hr
  have HB := Lib.hid hb
  obtain ⟨n, hn⟩ : ∃ n, ps.length = n := ⟨_, rfl⟩
  rw [hn] at hl ⊢
  have HN := Lib.hid hn
  clear hr hb hn
  go_enter Try.func51, Try.ntmps51
  go_wp2_with fail
  go_loopw [8] (fun v wr => ∃ k : Nat, v = .int .i64 (k : Int) ∧ k ≤ n ∧ noAny (ps.take k) = false ∧ Below w.heap.size w wr) (fun v _ => n - (intOf v).toNat)
  case atStart => exact ⟨0, rfl, by omega, by simp [noAny], Below.refl _ _⟩
  case round =>
    obtain ⟨k, rfl, hk, hany, hbe⟩ := hrel
    have HBE := Lib.hid hbe
    clear hbe
    have g0 : (0 : Int) ≤ (k : Int) := Int.natCast_nonneg _
    by_cases hlt : k < n
    · have hkl : k < ps.length := by rw [HN.out]; exact hlt
      obtain ⟨ad, rfl, _, c0, c1, c2⟩ := Net.Row.post (HR.out.below HBE.out) hkl
      have hta := noAny_take hkl
      rw [hany, Bool.false_or] at hta
      have hm : ps[k] ∈ ps := List.getElem_mem _
      obtain ⟨p, hp⟩ : ∃ p, p = ps[k] := ⟨_, rfl⟩
      rw [← hp] at c0 c1 c2 hta hm
      obtain ⟨pa, pc, px⟩ := p
      dsimp only at c0 c1 c2 hta
      have HT := Lib.hid hta
      have HM := Lib.hid hm
      have g1 : (k : Int) < (n : Int) := by omega
      clear hany hta hm hp hkl
      cases hbd : decide (¬ mayP pa pc) with
      | true =>
        have HBD := Lib.hid hbd
        clear hbd
        go_wp2_with fail
        refine (no_clo pa pc px _ true HBD.out).mono ?_
        rintro e w2 ⟨rfl, hb2⟩
        have HB2 := Lib.hid (HBE.out.trans (hb2.mono HBE.out.size))
        clear hb2
        go_wp2_with fail
        go_ret
        refine ⟨_, rfl, ?_, HB2.out⟩
        have hx : noAny ps = true := by
          unfold noAny
          rw [List.any_eq_true]
          exact ⟨_, HM.out, HBD.out⟩
        rw [← HB.out, hx]; simp
      | false =>
        have HBD := Lib.hid hbd
        clear hbd
        go_wp2_with fail
        refine (no_clo pa pc px _ false HBD.out).mono ?_
        rintro e w2 ⟨rfl, hb2⟩
        have HB2 := Lib.hid (HBE.out.trans (hb2.mono HBE.out.size))
        clear hb2
        go_wp2_with fail
        go_roundw
        case rel => exact ⟨k + 1, by go_num, by omega, by rw [HT.out]; exact HBD.out, HB2.out⟩
        case measure => simp only [intOf]; omega
    · obtain rfl : k = n := by omega
      have HF := Lib.hid (show noAny ps = false by rw [← hany, List.take_of_length_le (by rw [HN.out]; omega)])
      clear hany
      go_wp2_with fail
      go_ret
      exact ⟨_, rfl, by rw [← HB.out, HF.out]; rfl, HBE.out⟩
theorem contains_no (A : Option Addr) (ps : List Post) (c : Nat) (w : World) (hr : Row w 0 A (cells ps)) (hl : ps.length ≤ 1000000) (b : Bool) (hb : noAny ps = b) :
    Calls Try.prog 48 #[.slice A ps.length c, .func (.func 46) #[] #[]] w fun e w' => e = .returned (.bool b) ∧ Below w.heap.size w w' := by
  have HI := Lib.hid (index_no A ps c w hr hl b hb)
  generalize ps.length = n at *
  clear hr hb
  go_enter Try.func48, Try.ntmps48
  go_wp2_with fail
  refine HI.out.mono ?_
  rintro e w1 ⟨x, rfl, hx, hb⟩
  have HX := Lib.hid hx
  have HB := Lib.hid hb
  clear hx hb
  go_wp2_with fail
  go_ret
  exact ⟨by first | rfl | simp [HX.out], HB.out⟩
end
section
open Go.RowKit Go.Proofs.Ytmijcgcppankcaa.Cents Go.Proofs.Ytmijcgcppankcaa.MV Go.Proofs.Ytmijcgcppankcaa.Net Go.Proofs.Ytmijcgcppankcaa.CO
open Go.Maps (Keyed)
set_option linter.unusedVariables false
set_option linter.unusedSimpArgs false

def amts (c : Int) (ps : List Post) : List Int := (ps.filter (fun p => decide (p.ct = c))).map (·.amt)
open Classical in
noncomputable def gI (ps : List Post) : Lit → List Value := fun kl => ints ((ps.filter (fun p => decide (ilit p.ct = kl))).map (·.amt))
theorem gI_at (ps : List Post) (c : Int) : gI ps (ilit c) = ints (amts c ps) := by
  unfold gI amts
  congr 2
  apply List.filter_congr
  intro p _
  by_cases h : p.ct = c
  · simp [h]
  · have : ilit p.ct ≠ ilit c := fun e => h (ilit_inj e)
    simp [h, this]
theorem gI_put (ps : List Post) (p : Post) : gput (gI ps) (ilit p.ct) (.int .i64 p.amt) = gI (ps ++ [p]) := by
  funext kl
  unfold gput
  by_cases h : kl = ilit p.ct
  · subst h
    simp [gI, List.filter_append, ints]
  · have h2 : ilit p.ct ≠ kl := fun e => h e.symm
    simp [gI, List.filter_append, h, h2]
theorem gI_len (ps : List Post) (kl : Lit) : (gI ps kl).length ≤ ps.length := by
  unfold gI
  rw [ints_len, List.length_map]
  exact List.length_filter_le _ _
def evenP (ps : List Post) : Prop := ∀ p ∈ ps, (amts p.ct ps).sum = 0
theorem gI_pos {ps : List Post} {p : Post} (h : p ∈ ps) : gI ps (ilit p.ct) ≠ [] := by
  rw [gI_at]
  intro e
  have : amts p.ct ps = [] := by
    have := congrArg List.length e
    rw [ints_len] at this
    exact List.length_eq_zero_iff.1 (by simpa using this)
  unfold amts at this
  rw [List.map_eq_nil_iff, List.filter_eq_nil_iff] at this
  exact this p h (by simp)
theorem gI_some {ps : List Post} {c : Int} (h : gI ps (ilit c) ≠ []) : ∃ p ∈ ps, p.ct = c := by
  rw [gI_at] at h
  have : amts c ps ≠ [] := fun e => h (by rw [e]; rfl)
  unfold amts at this
  rw [ne_eq, List.map_eq_nil_iff, List.filter_eq_nil_iff] at this
  simpa using this
theorem amts_I {ps : List Post} (h : ∀ p ∈ ps, Post.I p) (c : Int) : ∀ x ∈ amts c ps, I64 x := fun x hx => by
  obtain ⟨p, hp, rfl⟩ := List.mem_map.1 hx
  exact (h p (List.mem_filter.1 hp).1).2.2
theorem zero_l (u : World) : (zeroValue 55).run Try.prog u = .ok (.slice none 0 0) u := by kernel_rfl
theorem own_cells {ww : World} {base e size n : Nat} {v : Value} {xs : List Value} (ho : ww.ownsRow base e size v n xs) : ∀ b, v.ownBlock = some b → ∃ cs t, ww.heap[b]? = some (.cells cs t) := fun b hb => by
  rcases ho.2 with ⟨h2, _⟩ | ⟨g', cap', cur, rfl, hgb, hh, _⟩
  · subst h2; cases hb
  · simp only [Value.ownBlock, Option.some.injEq] at hb
    subst hb
    exact ⟨_, _, hh⟩
theorem mapV_ne {P : Program} {k : TypeId} {m n : Nat} {f : KF} {w : World} (h : MapV P k m n f w) {base e size l : Nat} {v : Value} {xs : List Value} (ho : w.ownsRow base e size v l xs) : some m ≠ v.ownBlock := fun e => by
  obtain ⟨cs, t, hh⟩ := own_cells ho m e.symm
  exact h.not_cells hh rfl
/-- While it groups: the map, the rows. -/
structure EvW (w0 : World) (ps : List Post) (M k : Nat) (f : KF) (w : World) : Prop where
  map : MapV Try.prog 3 M k f w
  grp : Grp w0.heap.size 2 f (gI ps) w
  be : Below w0.heap.size w0 w
  hM : w0.heap.size ≤ M
theorem EvW.later {w0 w w' : World} {ps : List Post} {M k : Nat} {f : KF} (h : EvW w0 ps M k f w) (hb : Below w.heap.size w w') : EvW w0 ps M k f w' := ⟨h.map.later hb, h.grp.later hb, h.be.trans (hb.mono h.be.size), h.hM⟩
theorem ev_round {w wz w6 : World} {ps : List Post} {k M Q N n : Nat} {f : KF} {B : Option Addr} {cv g cap : Nat} {pa pc px : Int} (hE : EvW w (ps.take k) M k f wz) (hbk : Blk wz Q 48 #[.int .i64 pa, .int .i64 pc, .int .i64 px])
    (hput : gput (gI (ps.take k)) (ilit pc) (.int .i64 px) = gI (ps.take (k + 1))) (hpI : Post.I ⟨pa, pc, px⟩) (hN : (gI (ps.take k) (ilit pc)).length = N) (hv : (f (ilit pc)).getD (.slice none 0 0) = .slice B N cv) (hk : k ≤ n) (hl : n ≤ 1000)
    (hown6 : w6.ownsRow w.heap.size 2 1 (.slice (some ⟨g, 0, none⟩) (N + 1) cap) (N + 1) (gI (ps.take k) (ilit pc) ++ [.int .i64 px])) (hg6 : (wz.alloc (.cells #[.int .i64 px] 2)).drew.grownBy w6 (Value.slice B N cv).ownBlock)
    (hat6 : (Value.slice B N cv).ownBlock = some g ∨ g = wz.heap.size + 1) :
    ∃ w7, w6.cell? ⟨Q, 0, none⟩ = some (.int .i64 pa) ∧ w6.cell? ⟨Q, 1, none⟩ = some (.int .i64 pc) ∧ w6.cell? ⟨Q, 2, none⟩ = some (.int .i64 px) ∧
      (Instr.mapUpdate 91 (.map (some M)) (.int .i64 pc) (.slice (some ⟨g, 0, none⟩) (N + 1) cap)).run Try.prog w6 = .ok () w7 ∧
      w7.cell? ⟨Q, 0, none⟩ = some (.int .i64 pa) ∧ w7.cell? ⟨Q, 1, none⟩ = some (.int .i64 pc) ∧ w7.cell? ⟨Q, 2, none⟩ = some (.int .i64 px) ∧
      EvW w (ps.take (k + 1)) M (k + 1) (upd f (ilit pc) (.slice (some ⟨g, 0, none⟩) (N + 1) cap)) w7 := by
  have hg6' : (wz.alloc (.cells #[.int .i64 px] 2)).grownBy w6 (Value.slice B N cv).ownBlock := ⟨hg6.os, hg6.tape, hg6.output, hg6.size, hg6.block⟩
  have hown := hE.grp.at (ilit pc)
  rw [hv, hN] at hown
  have hbk1 := hbk.alloc (.cells #[.int .i64 px] 2)
  have hQ : some Q ≠ (Value.slice B N cv).ownBlock := own_box hown hbk (by decide)
  have hb6 := hbk1.grown hg6' hQ
  have hm6 := (hE.map.alloc (.cells #[.int .i64 px] 2)).kept hg6' (mapV_ne hE.map hown)
  obtain ⟨w7, hrun, hm7, hg7⟩ := hm6.put keyed_i Try.underlying91 (by unfold maxLen; omega) (ikey hpI.2.1) (some ⟨g, 0, none⟩) (N + 1) cap
  have hMQ : some Q ≠ some M := fun e => by injection e with e; subst e; exact hE.map.not_cells hbk rfl
  have hb7 := hb6.grown hg7 hMQ
  refine ⟨w7, hb6.cell 0, hb6.cell 1, hb6.cell 2, hrun, hb7.cell 0, hb7.cell 1, hb7.cell 2, hm7, ?_, ?_, hE.hM⟩
  · rw [← hput]
    refine hE.grp.put (o := .cells #[.int .i64 px] 2) (by rw [hN]) hown6 (by rw [hv]; exact hg6') (fun b hb => ?_) hg7 (fun b hb e => ?_)
    · rw [hv]
      injection hb with hb
      subst hb
      rcases hat6 with q | q
      · exact .inl q
      · exact .inr (by simp; exact q)
    · obtain ⟨cs, t2, hh⟩ := hb
      injection e with e
      exact hm6.not_cells hh e
  · have h1 : Below w.heap.size w (wz.alloc (.cells #[.int .i64 px] 2)) := hE.be.alloc hE.be.size _
    have h2 := h1.grown hg6' h1.size (fun j hj => (hown.lt j hj).1)
    exact h2.grown hg7 h2.size (fun j hj => by injection hj with hj; subst hj; exact hE.hM)
set_option maxHeartbeats 2000000 in
set_option maxRecDepth 100000 in
theorem even_any (A : Option Addr) (ps : List Post) (c : Nat) (w : World) (hr : Row w 0 A (cells ps)) (hl : ps.length ≤ 1000) (hI : ∀ p ∈ ps, Post.I p) (b : Bool) (hb : b = true ↔ evenP ps) :
    Calls Try.prog 49 #[.slice A ps.length c] w fun e w' => e = .returned (.bool b) ∧ Below w.heap.size w w' := by
  have HR := Lib.hid hr
  have HB := Lib.hid hb
  have HI := Lib.hid hI
  obtain ⟨n, hn⟩ : ∃ n, ps.length = n := ⟨_, rfl⟩
  rw [hn] at hl ⊢
  have HN := Lib.hid hn
  have hmk := @run_makeMap Try.prog
  clear hr hb hn hI
  go_enter Try.func49, Try.ntmps49
  go_wp2_with fail
  clear hmk
  go_loopw [13] (fun i wr => ∃ (k : Nat) (f : KF), i = .int .i64 (k : Int) ∧ k ≤ n ∧ EvW w (ps.take k) w.heap.size k f wr) (fun i _ => n - (intOf i).toNat)
  case atStart => exact ⟨0, _, rfl, by omega, MapV.made _ _ _, by rw [List.take_zero]; exact ⟨fun _ _ h => (by cases h), fun _ _ h => (by cases h), fun _ _ => rfl, fun _ _ _ _ h => (by cases h)⟩, alloc1 _ _, Nat.le_refl _⟩
  case round =>
    obtain ⟨k, f, rfl, hk, hev⟩ := hrel
    have HE := Lib.hid hev
    clear hev
    have g0 : (0 : Int) ≤ (k : Int) := Int.natCast_nonneg _
    by_cases hlt : k < n
    · have hkl : k < ps.length := by rw [HN.out]; exact hlt
      obtain ⟨ad, rfl, _, c0, c1, c2⟩ := Net.Row.post (HR.out.below HE.out.be) hkl
      have hpI := HI.out _ (List.getElem_mem hkl)
      have htk := take_end hkl
      obtain ⟨p, hp⟩ : ∃ p, p = ps[k] := ⟨_, rfl⟩
      rw [← hp] at c0 c1 c2 hpI htk
      have hput := gI_put (ps.take k) p
      rw [← htk] at hput
      obtain ⟨pa, pc, px⟩ := p
      dsimp only at c0 c1 c2 hput
      have HPUT := Lib.hid hput
      have HPI := Lib.hid hpI
      have g1 : (k : Int) < (n : Int) := by omega
      have hE1 := HE.out.later (alloc1 wr (.cells #[.int .i64 pa, .int .i64 pc, .int .i64 px] 48))
      have hbk := Blk.new wr 48 #[.int .i64 pa, .int .i64 pc, .int .i64 px]
      obtain ⟨Q, hQ⟩ : ∃ Q, wr.heap.size = Q := ⟨_, rfl⟩
      obtain ⟨wz, hwz⟩ : ∃ wz, wr.alloc (.cells #[.int .i64 pa, .int .i64 pc, .int .i64 px] 48) = wz := ⟨_, rfl⟩
      rw [hwz] at hE1 hbk
      rw [hQ] at hbk
      have HWZ := Lib.hid hwz
      have HQ := Lib.hid hQ
      clear hwz hQ
      have hown := hE1.grp.at (ilit pc)
      have hE2 := hE1.later (Below.drew (Below.refl _ _))
      have hE3 := (hE1.later (alloc1 wz (.cells #[.int .i64 px] 2))).later (Below.drew (Below.refl _ _))
      have hlk := hE2.map.look keyed_i Try.underlying91 (zero_l _) (ikey hpI.2.1)
      have hlk2 := hE3.map.look keyed_i Try.underlying91 (zero_l _) (ikey hpI.2.1)
      have hln := gI_len (ps.take k) (ilit pc)
      have hln2 : (gI (ps.take k) (ilit pc)).length ≤ k := Nat.le_trans hln (by rw [List.length_take]; omega)
      obtain ⟨N, hN⟩ : ∃ N, (gI (ps.take k) (ilit pc)).length = N := ⟨_, rfl⟩
      rw [hN] at hown hln2
      have HNN := Lib.hid hN
      obtain ⟨v, hv⟩ : ∃ v, (f (ilit pc)).getD (.slice none 0 0) = v := ⟨_, rfl⟩
      rw [hv] at hown hlk hlk2
      obtain ⟨B, cv, rfl, hcv⟩ := own_slice hown
      have HV := Lib.hid hv
      have HE1 := Lib.hid hE1
      have HOWN := Lib.hid hown
      have HBK := Lib.hid hbk
      have hsz : w.heap.size ≤ wz.heap.size := hE1.be.size
      have hb1' : (N + 1) * 8 ≤ 140737488355328 := by omega
      have hb2' : N + 1 ≤ maxLen := by unfold maxLen; omega
      have a0 : wz.cell? ⟨Q, 0, none⟩ = some (.int .i64 pa) := hbk.cell 0
      have a1 : wz.cell? ⟨Q, 1, none⟩ = some (.int .i64 pc) := hbk.cell 1
      have a2 : wz.cell? ⟨Q, 2, none⟩ = some (.int .i64 px) := hbk.cell 2
      have HNXT := Lib.hid (fun g cap w6 (hown6 : w6.ownsRow w.heap.size 2 1 (.slice (some ⟨g, 0, none⟩) (N + 1) cap) (N + 1) (gI (ps.take k) (ilit pc) ++ [.int .i64 px])) (hg6 : (wz.alloc (.cells #[.int .i64 px] 2)).drew.grownBy w6 (Value.slice B N cv).ownBlock)
          (hat6 : (Value.slice B N cv).ownBlock = some g ∨ g = wz.heap.size + 1) => ev_round HE1.out HBK.out HPUT.out hpI hN hv hk hl hown6 hg6 hat6)
      clear hput hpI htk hp hkl hE1 hE2 hE3 hown hln hN hv hbk HE
      go_wp2_with fail
      try rw [HWZ.out]
      try rw [HQ.out]
      go_region_held3 (fun w' => w'.cell? ⟨Q, 0, none⟩ = some (.int .i64 pa) ∧ w'.cell? ⟨Q, 1, none⟩ = some (.int .i64 pc) ∧ w'.cell? ⟨Q, 2, none⟩ = some (.int .i64 px))
        (first | (go_keep; done) | (go_split_ands; exact ⟨b0, b1, b2⟩) | (go_split_ands; exact ⟨d0, d1, d2⟩))
        ((refine step_app E_i64 rfl (.tmp 23) (.tmp 26) rfl rfl ((HOWN.out.alloc _).drew) ⟨wz.heap.size, 0, none⟩ 1 1 [.int .i64 px] rfl rfl (World.news_of_block (heap_alloc_new wz _)) (by simp [Value.oneCell']) hb1' hb2' (by simp; omega) (by decide) (wz.heap.size + 1) (by simp) ?_; intro g cap w6 hown6 hg6 hat6 hlt6; obtain ⟨w7, b0, b1, b2, hput7, d0, d1, d2, hev7⟩ := HNXT.out g cap w6 hown6 hg6 hat6; have HEV7 := Lib.hid hev7; clear hown6 hg6 hat6 hev7))
      all_goals
        go_wp2_with fail
        go_roundw
        case rel => exact ⟨k + 1, _, by go_num, by omega, HEV7.out⟩
        case measure => simp only [intOf]; omega
    · obtain rfl : k = n := by omega
      rw [List.take_of_length_le (show ps.length ≤ k by rw [HN.out]; exact Nat.le_refl _)] at HE
      have hrsz := HE.out.map.lt
      go_wp2_with (at_range; refine wpList_rangeV rfl _ 91 rfl 3 55 keyed_i Try.underlying91 w.heap.size k f rfl HE.out.map ?_; intro w8 left0 cnt0 hrg0 hcn0 hst0 hg0 hs0; go_frame)
      have HG8 := Lib.hid (HE.out.grp.kept hg0 (fun _ _ _ _ _ => by simp))
      have HB8 := Lib.hid (HE.out.be.grown hg0 HE.out.be.size (fun j hj => by cases hj))
      have HST := Lib.hid (show ∀ kl, WideAt.IsKeyLit kl → f kl ≠ none → left0 kl = false → ∀ x, kl = ilit x → (amts x ps).sum = 0 from fun kl h1 h2 h3 => by rw [hst0 kl h1 h2] at h3; cases h3)
      have HRG := Lib.hid hrg0
      have hB0 : w.heap.size ≤ wr.heap.size := HE.out.be.size
      clear HE hg0 hst0 hrg0
      generalize hR : wr.heap.size = R at *
      clear hR
      go_loopw [7] (fun _ wr => ∃ (left : Lit → Bool) (cnt : Nat), RangeV Try.prog 3 w.heap.size R k f left cnt wr ∧ Grp w.heap.size 2 f (gI ps) wr ∧ Below w.heap.size w wr ∧ ∀ kl, WideAt.IsKeyLit kl → f kl ≠ none → left kl = false → ∀ x, kl = ilit x → (amts x ps).sum = 0) (fun _ wr => wr.rangeLeft w.heap.size R)
      case atStart => exact ⟨_, _, HRG.out, HG8.out, HB8.out, HST.out⟩
      case round =>
        clear HG8 HB8 HST HRG
        obtain ⟨left, cnt, hrg, hgr, hbe, hst⟩ := hrel
        have HGR := Lib.hid hgr
        have HBE := Lib.hid hbe
        have HST := Lib.hid hst
        have HM1 := Lib.hid hrg.left_eq
        clear hgr hbe hst
        go_wp2_with (at_next; refine wpList_nextV rfl _ rfl 3 keyed_i (Value.int .i64) ikey_inv w.heap.size R k f left cnt rfl hrg ?_ ?_)
        · intro _ hl0
          have hev : evenP ps := fun p hp => by
            have h1 := gI_pos hp
            have h2 : f (ilit p.ct) ≠ none := fun e => h1 (HGR.out.no _ e)
            exact HST.out (ilit p.ct) trivial h2 (hl0 _) p.ct rfl
          have HBT := Lib.hid (HB.out.2 hev)
          clear hrg hev
          go_wp2_with fail
          go_ret
          exact ⟨by rw [HBT.out]; rfl, HBE.out⟩
        · intro x A u c kl w9 cnt1 hkey hlx hf hrg1 hlt hg1 hs1 hen
          obtain ⟨hxI, hkl⟩ := ikey_back hkey
          have hown := HGR.out.own kl _ hf
          have hpos := HGR.out.pos kl _ hf
          have hRlt := hrg.lt
          have hne : ∀ kl2 v2 b2, f kl2 = some v2 → v2.ownBlock = some b2 → some b2 ≠ some R := fun kl2 v2 b2 h2 hb2 e => by
            injection e with e
            subst e
            obtain ⟨cs, t2, hh⟩ := own_cells (HGR.out.own kl2 v2 h2) b2 hb2
            obtain ⟨D, ⟨es, clock, since, seen, c0, _, _, _, _, hr, _⟩, _⟩ := hrg
            rw [hh] at hr
            cases hr
          have HGR9 := Lib.hid (HGR.out.kept hg1 hne)
          have hown9 := HGR9.out.own kl _ hf
          subst hkl
          rw [gI_at] at hown9 hpos
          rw [ints_len] at hown9
          obtain ⟨A', c', hv, hcv⟩ := own_slice hown9
          injection hv with hA hu hc
          subst hA hc
          have HRX := Lib.hid ((Row.of_own (by rw [hu] at hown9; exact hown9) (by decide)).weak (Nat.zero_le _))
          have hxs := amts_I HI.out x
          have hlen : (amts x ps).length ≤ 1000 := by
            unfold amts
            rw [List.length_map]
            exact Nat.le_trans (List.length_filter_le _ _) (by rw [HN.out]; exact hl)
          have hsum := fun a b h => sum_is A (amts x ps) c w9 a b hxs HRX.out (by omega) h
          rw [← hu] at hsum
          have HBE9 := Lib.hid (HBE.out.grown hg1 HBE.out.size (fun j hj => by injection hj with hj; subst hj; exact hB0))
          have HNE := Lib.hid (show (amts x ps).sum ≠ 0 → ¬ evenP ps from fun h1 h2 => by
            obtain ⟨p, hp, hpc⟩ := gI_some (ps := ps) (c := x) (by rw [gI_at]; exact hpos)
            exact h1 (by rw [← hpc]; exact h2 p hp))
          have HSX := Lib.hid (fun (h0 : (amts x ps).sum = 0) kl2 (h1 : WideAt.IsKeyLit kl2) (h2 : f kl2 ≠ none) (h3 : (left kl2 && !kl2.sameKey (ilit x)) = false) y (h4 : kl2 = ilit y) => show (amts y ps).sum = 0 from by
            by_cases e : kl2 = ilit x
            · rw [e] at h4
              rw [← ilit_inj h4]; exact h0
            · have := struck_other (left := left) e
              simp only at this
              rw [this] at h3
              exact HST.out kl2 h1 h2 h3 y h4)
          have HRG1 := Lib.hid hrg1
          have HLT := Lib.hid hlt
          generalize (amts x ps).sum = S at *
          clear hown hpos hne hown9 hxs hlen hcv hu hrg hrg1 hg1 hs1 hf hkey hlt hlx
          by_cases hS0 : S = 0
          · have HSUM := Lib.hid (hsum 0 0 (by rw [hS0]; decide))
            have HS0 := Lib.hid hS0
            clear hsum hS0
            go_wp2_with fail
            refine HSUM.out.mono ?_
            rintro e w10 ⟨rfl, hb10⟩
            have HB10 := Lib.hid hb10
            clear hb10
            go_wp2_with fail
            go_roundw
            case rel => exact ⟨_, cnt1, HRG1.out.later HB10.out, HGR9.out.later HB10.out, HBE9.out.trans (HB10.out.mono HBE9.out.size), fun kl2 h1 h2 h3 y h4 => HSX.out HS0.out kl2 h1 h2 h3 y h4⟩
            case measure => rw [(HRG1.out.later HB10.out).left_eq, HM1.out]; exact HLT.out
          · have hbf : b = false := by
              cases hb2 : b
              · rfl
              · exact absurd (HB.out.1 hb2) (HNE.out hS0)
            have HBF := Lib.hid hbf
            clear hbf
            by_cases hSI : I64 S
            · have HSUM := Lib.hid (hsum S 0 (by unfold sumN sumE; rw [if_pos hSI, if_pos hSI]; exact ⟨rfl, rfl⟩))
              have hS1 : (S != 0) = true := by simpa using hS0
              clear hsum hSI
              go_wp2_with fail
              refine HSUM.out.mono ?_
              rintro e w10 ⟨rfl, hb10⟩
              have HB10 := Lib.hid (HBE9.out.trans (hb10.mono HBE9.out.size))
              clear hb10
              go_wp2_with fail
              go_ret
              exact ⟨by rw [HBF.out]; rfl, HB10.out⟩
            · have HSUM := Lib.hid (hsum 0 3 (by unfold sumN sumE; rw [if_neg hSI, if_neg hSI]; exact ⟨rfl, rfl⟩))
              clear hsum hSI hS0
              go_wp2_with fail
              refine HSUM.out.mono ?_
              rintro e w10 ⟨rfl, hb10⟩
              have HB10 := Lib.hid (HBE9.out.trans (hb10.mono HBE9.out.size))
              clear hb10
              go_wp2_with fail
              go_ret
              exact ⟨by rw [HBF.out]; rfl, HB10.out⟩
end
section
open Go.RowKit Go.Proofs.Ytmijcgcppankcaa.Cents Go.Proofs.Ytmijcgcppankcaa.MV Go.Proofs.Ytmijcgcppankcaa.Net Go.Proofs.Ytmijcgcppankcaa.CO
open Go.Maps (Keyed)
set_option linter.unusedVariables false
set_option linter.unusedSimpArgs false

theorem info_i8 : (Try.prog.info? 2).map (fun i => (i.zero, i.size, i.bytes)) = some (some (.int .i64 0), 1, 8) := by kernel_rfl
theorem size_i8 : (Try.prog.info? 2).map (·.size) = some 1 := by kernel_rfl
def zeros (n : Nat) : List Int := List.replicate n 0
theorem made_zeros (n : Nat) : (madeCells (Value.int .i64 0).cells (n * 1)).toList = ints (zeros n) := by
  apply List.ext_getElem?
  intro i
  simp [madeCells, ints, zeros, Value.cells, List.getElem?_replicate]
  by_cases h : i < n <;> simp [h, Nat.mod_one]
def newRow (old : List Int) (q : Nat) (xs : List Int) : List Int := old.set q (xs.sum + old.getD q 0)
def okRow (per q : Nat) (r : List Int) : Prop := I64 (r.getD q 0) ∧ ∀ p, q ≤ p → p < per → I64 (r.take (p + 1)).sum
def FitsRet (S : Nat → Prop) (w : World) (per q : Nat) (old xs : List Int) (e : Ending) (w' : World) : Prop :=
  Fr S w w' ∧ ((okRow per q (newRow old q xs) ∧ ∃ g, e = .returned (.tuple #[.slice (some ⟨g, 0, none⟩) per per, .bool true]) ∧ w'.ownsRow w.heap.size 2 1 (.slice (some ⟨g, 0, none⟩) per per) per (ints (newRow old q xs))) ∨
    (¬ okRow per q (newRow old q xs) ∧ e = .returned (.tuple #[.slice none 0 0, .bool false])))
theorem own_blk {w : World} {g base : Nat} {l : List Int} (h : Blk w g 2 (ints l).toArray) (hb : base ≤ g) (hl : l.length ≤ 1000000) : w.ownsRow base 2 1 (.slice (some ⟨g, 0, none⟩) l.length l.length) l.length (ints l) := by
  refine ⟨by simp [ints], .inr ⟨g, l.length, (ints l).toArray, rfl, hb, h, Nat.le_refl _, by unfold maxLen; omega, by simp [ints], List.take_of_length_le (by simp [ints])⟩⟩
theorem own_blk_of {w : World} {g base n : Nat} {xs : List Value} {e : TypeId} (h : w.ownsRow base e 1 (.slice (some ⟨g, 0, none⟩) n n) n xs) : Blk w g e xs.toArray := by
  rcases h.2 with ⟨h2, _⟩ | ⟨g', cap', cur, hv, hg, hh, hn, hm, hs, ht⟩
  · cases h2
  · injection hv with e1 _ e3
    injection e1 with e1
    injection e1 with e1
    subst e1; subst e3
    have h1 : cur.toList = xs := by
      rw [← ht]
      exact (List.take_of_length_le (by simp at hs ⊢; omega)).symm
    have h2 : cur = xs.toArray := by rw [← h1]
    rw [← h2]
    exact hh
set_option maxHeartbeats 4000000 in
set_option maxRecDepth 100000 in
theorem fits_any (L M E0 per q nn cv k ca : Nat) (opn : Int) (vE : Value) (a c : Int) (B A : Option Addr) (cs : List Value) (old xs : List Int) (n : Nat) (f : KF) (w : World)
    (hL : Blk w L 63 #[.int .i64 (per : Int), .int .i64 opn, vE, .map (some M)]) (hM : MapV Try.prog 74 M n f w) (ha : I64 a) (hc : I64 c) (hq : q < per) (hper : per ≤ 240)
    (hlook : (f (plit a c)).getD (.slice none 0 0) = .slice B nn cv) (hcs : cs.length = nn) (hnn : nn ≤ per) (hrow : Row w 0 B cs) (hone : ∀ v ∈ cs, v.oneCell' = true) (hold : splice (ints (zeros per)) 0 cs = ints old) (hol : old.length = per) (hoI : ∀ x ∈ old, I64 x)
    (hmore : w.ownsRow E0 2 1 (.slice A k ca) k (ints xs)) (hk : k ≤ 1000) (hE0 : E0 ≤ w.heap.size) (hxI : ∀ x ∈ xs, I64 x) (hLm : (Value.slice A k ca).ownBlock ≠ some L) (hMm : (Value.slice A k ca).ownBlock ≠ some M) :
    Calls Try.prog 40 #[.pointer (some ⟨L, 0, none⟩), .agg #[.int .i64 a, .int .i64 c], .int .i64 (q : Int), .slice A k ca] w (FitsRet (fun z => (Value.slice A k ca).ownBlock = some z) w per q old xs) := by
  obtain ⟨i0, hi, hz0, hz1, hz2⟩ := info_parts info_i8
  have HL := Lib.hid hL
  have HM := Lib.hid hM
  have HMORE := Lib.hid hmore
  have HROW := Lib.hid hrow
  have HOLD := Lib.hid hold
  have HOL := Lib.hid hol
  have HOI := Lib.hid hoI
  have HXI := Lib.hid hxI
  have HLOOK := Lib.hid hlook
  have HLm := Lib.hid hLm
  have HMm := Lib.hid hMm
  have HONE := Lib.hid hone
  have c0 : w.cell? ⟨L, 0, none⟩ = some (.int .i64 (per : Int)) := hL.cell 0
  have hlt := hL.lt
  have hb240 : i0.bytes * per ≤ 281474976710656 := by rw [hz2]; omega
  have hbm : per ≤ maxLen := by unfold maxLen; omega
  have q0 : (0 : Int) ≤ (q : Int) := Int.natCast_nonneg _
  have q1 : (q : Int) < (per : Int) := by omega
  have p0 : (0 : Int) ≤ (per : Int) := Int.natCast_nonneg _
  clear hL hM hmore hrow hold hol hoI hxI hlook hLm hMm hone
  go_enter Try.func40, Try.ntmps40
  go_wp2_with (at_make; refine wpList_make_full _ rfl (.tmp 19) (.tmp 19) 55 rfl w.heap.size 2 i0 (.int .i64 0) 1 Try.underlying55 hi hz0 hz1 .i64 .i64 _ _ per rfl rfl rfl rfl hb240 hbm (by simp) ?_; intro w2 hown2 hg2)
  have hw1 := alloc1 w (.cells #[.int .i64 a, .int .i64 c] 74)
  have hb2 := hw1.trans ((show Below w.heap.size (w.alloc (.cells #[.int .i64 a, .int .i64 c] 74)) w2 from ⟨hg2.os, hg2.tape, hg2.output, hg2.size, fun i hi => hg2.block i (Nat.lt_of_lt_of_le hi (by simp)) (by simp)⟩))
  have hbp := (Blk.new w 74 #[.int .i64 a, .int .i64 c]).grown hg2 (by simp)
  have hsz2 : w.heap.size + 1 < w2.heap.size := by
    have := (hown2.lt _ rfl).2
    simpa using this
  obtain ⟨G, hG⟩ : ∃ G, w.heap.size + 1 = G := ⟨_, rfl⟩
  have hGe : (w.alloc (.cells #[.int .i64 a, .int .i64 c] 74)).heap.size = G := by simp; exact hG
  rw [hGe, made_zeros] at hown2
  have hz := own_blk_of hown2
  have a3 : w2.cell? ⟨L, 3, none⟩ = some (.map (some M)) := (HL.out.below hb2 hlt).cell 3
  have hm2 := HM.out.later hb2
  have p1 : w2.cell? ⟨w.heap.size, 0, none⟩ = some (.int .i64 a) := hbp.cell 0
  have p2 : w2.cell? ⟨w.heap.size, 1, none⟩ = some (.int .i64 c) := hbp.cell 1
  have hlk := (hm2.later (Below.drew (Below.refl _ w2))).look keyed_pl Try.underlying60 (zero_l _) (pkey ha hc)
  rw [HLOOK.out] at hlk
  have HZ := Lib.hid hz
  have HB2 := Lib.hid hb2
  have HGG := Lib.hid hG
  have hwG : w.heap.size ≤ G := by omega
  clear hown2 hz hb2 hg2 hw1 hbp hm2 hGe hG
  try rw [HGG.out]
  go_still_tail 7, (by kernel_rfl)
  change wpList _ _ _ _ _ w2.drew
  have hz3 : Blk w2.drew G 2 (ints (zeros per)).toArray := HZ.out
  have hb3 : Below w.heap.size w w2.drew := Below.drew HB2.out
  generalize w2.drew = w3 at hz3 hb3 ⊢
  have HZ3 := Lib.hid hz3
  have HB3 := Lib.hid hb3
  have HRW3 := Lib.hid (HROW.out.below hb3)
  have hn : cs.length = Nat.min nn per := by rw [hcs]; exact (Nat.min_eq_left hnn).symm
  have HN := Lib.hid hn
  have hpos : 0 < cs.length → (some ⟨G, 0, none⟩ : Option Addr) = some ⟨G, 0, none⟩ ∧ ∃ ad, B = some ad ∧ ∀ j v, cs[j]? = some v → w3.cell? (ad.add j) = some v := fun h => by
    obtain ⟨ad, e, _, hc⟩ := HRW3.out h
    exact ⟨rfl, ad, e, hc⟩
  have HPOS := Lib.hid hpos
  have HFIT := Lib.hid (show 0 + cs.length ≤ (ints (zeros per)).length by rw [ints_len, hcs]; simp [zeros]; exact hnn)
  obtain ⟨o, ho⟩ : ∃ o, old.getD q 0 = o := ⟨_, rfl⟩
  have HO := Lib.hid ho
  have hxl : xs.length = k := by have := HMORE.out.1; rw [ints_len] at this; omega
  have HXL := Lib.hid hxl
  have HB4 := Lib.hid (fun (w4 : World) (hg4 : Hid (w4.heap[G]? = some (.cells (splice (ints (zeros per)) 0 cs).toArray 2 (0, 0)))) (hb4 : Below w.heap.size w w4) =>
    (show w4.cell? ⟨G, q, none⟩ = some (.int .i64 o) ∧ w4.ownsRow w.heap.size 2 1 (.slice (some ⟨G, 0, none⟩) per per) per (ints old) ∧ w4.ownsRow E0 2 1 (.slice A k ca) k (ints xs) from by
      have h1 : Blk w4 G 2 (ints old).toArray := by rw [← HOLD.out]; exact hg4.out
      have h2 := own_blk h1 hwG (by rw [HOL.out]; omega)
      rw [HOL.out] at h2
      refine ⟨own_cell h2 ?_, h2, own_grown (row := none) HMORE.out ⟨hb4.os, hb4.tape, hb4.output, hb4.size, fun i hi _ => hb4.block i hi⟩ (by simp)⟩
      rw [← HO.out, show (ints old)[q]? = (old[q]?).map (Value.int .i64) by simp [ints], List.getElem?_eq_getElem (by rw [HOL.out]; exact hq)]
      simp [List.getD_eq_getElem?_getD, show q < old.length by rw [HOL.out]; exact hq]))
  have hb1' : (k + 1) * 8 ≤ 140737488355328 := by omega
  have hb2' : k + 1 ≤ maxLen := by unfold maxLen; omega
  clear hz3 hb3 hn hpos ho hxl hlk a3 p1 p2 c0
  refine wpList_copy_splice rfl (.tmp 21) (.tmp 27) 55 55 rfl 2 Try.underlying55 size_i8 (some ⟨G, 0, none⟩) B per per nn cv rfl rfl G 0 (ints (zeros per)) 2 HZ3.out cs HN.out HPOS.out HFIT.out HONE.out w.heap.size w HB3.out hwG ?_
  intro w4 hg4 hb4
  obtain ⟨c4, ho4, hm4⟩ := HB4.out w4 hg4 hb4
  have HR4 := Lib.hid ho4
  have HM4 := Lib.hid hm4
  have HBW4 := Lib.hid hb4
  have hsz4 := hb4.size
  clear hg4 hb4 ho4 hm4
  go_wp2_with (at_builtin; refine wpList_app E_i64 rfl (.tmp 30) (.tmp 35) rfl rfl (HM4.out.alloc _) ⟨w4.heap.size, 0, none⟩ 1 1 [.int .i64 o] rfl rfl (cell_one_new _ _ _) (one_cell _ _) hb1' hb2' (by simp; omega) (by decide) ?_; intro g5 cap5 w5 hown5 hg5 hat5; have HO5 := Lib.hid hown5; have HG5 := Lib.hid hg5; clear hown5 hg5 hat5)
  have hGm : some G ≠ (Value.slice A k ca).ownBlock := fun e => by
    have := (HMORE.out.lt G e.symm).2
    omega
  have hr5 : w5.ownsRow w.heap.size 2 1 (.slice (some ⟨G, 0, none⟩) per per) per (ints old) :=
    own_grown (own_grown HR4.out (World.grownBy_alloc w4 (.cells #[.int .i64 o] 2) none) (by simp)) HG5.out (fun g hg => by simp only [Value.ownBlock, Option.some.injEq] at hg; rw [← hg]; exact hGm)
  have hf5 : Fr (fun z => (Value.slice A k ca).ownBlock = some z) w w5 := ((Fr.later HBW4.out).alloc _).grown HG5.out (fun z hz _ => hz)
  have hrow5 : Row w5 0 (some ⟨g5, 0, none⟩) (ints (xs ++ [o])) := by
    rw [show ints (xs ++ [o]) = ints xs ++ [.int .i64 o] by simp [ints]]
    exact (Row.of_own HO5.out (by decide)).weak (Nat.zero_le _)
  have hoi : I64 o := by
    rw [← HO.out, List.getD_eq_getElem?_getD, List.getElem?_eq_getElem (show q < old.length by rw [HOL.out]; exact hq)]
    exact HOI.out _ (List.getElem_mem _)
  have hsx : ∀ x ∈ xs ++ [o], I64 x := fun x hx => by
    rcases List.mem_append.1 hx with h | h
    · exact HXI.out x h
    · rw [List.mem_singleton.1 h]; exact hoi
  have hsum := fun a b h => sum_is (some ⟨g5, 0, none⟩) (xs ++ [o]) cap5 w5 a b hsx hrow5 (by rw [List.length_append, HXL.out]; simp; omega) h
  rw [List.length_append, HXL.out, show [o].length = 1 from rfl] at hsum
  have hss : (xs ++ [o]).sum = xs.sum + o := by rw [List.sum_append]; simp
  rw [hss] at hsum
  have HR5 := Lib.hid hr5
  have HF5 := Lib.hid hf5
  obtain ⟨s, hs⟩ : ∃ s, xs.sum + o = s := ⟨_, rfl⟩
  rw [hs] at hsum
  have HNEW := Lib.hid (show newRow old q xs = old.set q s by unfold newRow; rw [HO.out, hs])
  have HSQ := Lib.hid (show (newRow old q xs).getD q 0 = s by rw [HNEW.out]; simp [List.getD_eq_getElem?_getD, show q < old.length by rw [HOL.out]; exact hq])
  clear hGm hr5 hf5 hrow5 hoi hsx hss hs
  by_cases hsI : I64 s
  · have HSUM := Lib.hid (hsum s 0 (by unfold sumN sumE; rw [if_pos hsI, if_pos hsI]; exact ⟨rfl, rfl⟩))
    have HSI := Lib.hid hsI
    clear hsum hsI
    refine HSUM.out.mono ?_
    rintro e w6 ⟨rfl, hb6⟩
    have hr6 := own_below HR5.out hb6
    have hf6 := HF5.out.trans (Fr.later hb6)
    have fr6 := own_free hr6 q
    have ce6 := own_cell hr6 (j := q) (u := .int .i64 o) (by rw [← HO.out, show (ints old)[q]? = (old[q]?).map (Value.int .i64) by simp [ints], List.getElem?_eq_getElem (by rw [HOL.out]; exact hq)]; simp [List.getD_eq_getElem?_getD, show q < old.length by rw [HOL.out]; exact hq])
    have hr7 := own_set hr6 q (.int .i64 s)
    rw [ints_set, ← HNEW.out] at hr7
    have HR7 := Lib.hid hr7
    have HF7 := Lib.hid (hf6.setCell (p := ⟨G, q, none⟩) (fun h => by simp at h; omega) (.int .i64 s))
    have HNL := Lib.hid (show (newRow old q xs).length = per by rw [HNEW.out, List.length_set]; exact HOL.out)
    have HNI := Lib.hid (show ∀ x ∈ newRow old q xs, I64 x from fun x hx => by
      rw [HNEW.out] at hx
      rcases List.mem_or_eq_of_mem_set hx with h | h
      · exact HOI.out x h
      · rw [h]; exact HSI.out)
    clear hr6 hf6 hr7 hb6
    go_wp2_with fail
    go_loopw [13] (fun i wr => ∃ p : Nat, i = .int .i64 (p : Int) ∧ q ≤ p ∧ p ≤ per ∧ (∀ j, q ≤ j → j < p → I64 ((newRow old q xs).take (j + 1)).sum) ∧ wr.ownsRow w.heap.size 2 1 (.slice (some ⟨G, 0, none⟩) per per) per (ints (newRow old q xs)) ∧ Fr (fun z => (Value.slice A k ca).ownBlock = some z) w wr) (fun i _ => per - (intOf i).toNat)
    case atStart => exact ⟨q, rfl, Nat.le_refl _, by omega, fun j h1 h2 => by omega, HR7.out, HF7.out⟩
    case round =>
      clear HR7 HF7
      obtain ⟨p, rfl, hqp, hpp, hok, hrw, hfr⟩ := hrel
      have HRW := Lib.hid hrw
      have HFR := Lib.hid hfr
      have HOK := Lib.hid hok
      have l0 : wr.cell? ⟨L, 0, none⟩ = some (.int .i64 (per : Int)) := (HL.out.fr hfr HLm.out).cell 0
      clear hrw hfr hok
      have g0 : (0 : Int) ≤ (p : Int) := Int.natCast_nonneg _
      by_cases hlt : p < per
      · have g1 : (p : Int) < (per : Int) := by omega
        have hrow := (row_take ((Row.of_own HRW.out (by decide)).weak (Nat.zero_le _)) (p + 1) : Row wr 0 (some ⟨G, 0, none⟩) (ints ((newRow old q xs).take (p + 1))))
        have hlen : ((newRow old q xs).take (p + 1)).length = p + 1 := by rw [List.length_take, HNL.out]; omega
        have hsum := fun a b h => sum_is (some ⟨G, 0, none⟩) ((newRow old q xs).take (p + 1)) per wr a b (fun x hx => HNI.out x (List.mem_of_mem_take hx)) hrow (by rw [hlen]; omega) h
        rw [hlen] at hsum
        have w1 : IntKind.i64.wrap ((p : Int) + 1) = (p : Int) + 1 := IntWalk.i64_in _ (by omega)
        have g2 : (0 : Int) ≤ (p : Int) + 1 := by omega
        have g3 : (p : Int) + 1 ≤ (per : Int) := by omega
        have g4 : ((p : Int) + 1).toNat = p + 1 := by omega
        by_cases hsI : I64 ((newRow old q xs).take (p + 1)).sum
        · have HSUM := Lib.hid (hsum _ 0 (by unfold sumN sumE; rw [if_pos hsI, if_pos hsI]; exact ⟨rfl, rfl⟩))
          have HOK2 := Lib.hid (show ∀ j, q ≤ j → j < p + 1 → I64 ((newRow old q xs).take (j + 1)).sum from fun j h1 h2 => by
            rcases Nat.lt_or_ge j p with h | h
            · exact HOK.out j h1 h
            · rw [show j = p by omega]; exact hsI)
          generalize ((newRow old q xs).take (p + 1)).sum = sp at HSUM
          clear hsum hrow hlen hsI HOK
          go_wp2_with fail
          refine HSUM.out.mono ?_
          rintro e w8 ⟨rfl, hb8⟩
          have HR8 := Lib.hid (own_below HRW.out hb8)
          have HF8 := Lib.hid (HFR.out.trans (Fr.later hb8))
          clear hb8
          go_wp2_with fail
          go_roundw
          case rel => exact ⟨p + 1, by go_num, by omega, by omega, HOK2.out, HR8.out, HF8.out⟩
          case measure => simp only [intOf]; omega
        · have HSUM := Lib.hid (hsum 0 3 (by unfold sumN sumE; rw [if_neg hsI, if_neg hsI]; exact ⟨rfl, rfl⟩))
          have HNO := Lib.hid (show ¬ okRow per q (newRow old q xs) from fun h => hsI (h.2 p hqp hlt))
          clear hsum hrow hlen hsI HOK
          go_wp2_with fail
          refine HSUM.out.mono ?_
          rintro e w8 ⟨rfl, hb8⟩
          have HF8 := Lib.hid (HFR.out.trans (Fr.later hb8))
          clear hb8
          go_wp2_with fail
          go_ret2
          exact ⟨HF8.out, .inr ⟨HNO.out, rfl⟩⟩
      · obtain rfl : p = per := by omega
        have HYES := Lib.hid (show okRow p q (newRow old q xs) from ⟨by rw [HSQ.out]; exact HSI.out, HOK.out⟩)
        go_wp2_with fail
        go_ret2
        exact ⟨HFR.out, .inl ⟨HYES.out, G, rfl, HRW.out⟩⟩
  · have HSUM := Lib.hid (hsum 0 3 (by unfold sumN sumE; rw [if_neg hsI, if_neg hsI]; exact ⟨rfl, rfl⟩))
    have HNO := Lib.hid (show ¬ okRow per q (newRow old q xs) from fun h => hsI (by rw [← HSQ.out]; exact h.1))
    clear hsum hsI
    refine HSUM.out.mono ?_
    rintro e w6 ⟨rfl, hb6⟩
    have HB6 := Lib.hid hb6
    clear hb6
    go_wp2_with fail
    go_ret2
    exact ⟨HF5.out.trans (Fr.later HB6.out), .inr ⟨HNO.out, rfl⟩⟩
end
section
open Go.RowKit Go.Proofs.Ytmijcgcppankcaa.Cents Go.Proofs.Ytmijcgcppankcaa.MV Go.Proofs.Ytmijcgcppankcaa.Net Go.Proofs.Ytmijcgcppankcaa.CO
open Go.Maps (Keyed)
set_option linter.unusedVariables false
set_option linter.unusedSimpArgs false

def hasP (per : Nat) (x : Int) : Prop := 0 ≤ x ∧ x < (per : Int)
instance (per : Nat) (x : Int) : Decidable (hasP per x) := by unfold hasP; infer_instance
theorem has_is (L per : Nat) (x : Int) (w : World) (c0 : w.cell? ⟨L, 0, none⟩ = some (.int .i64 (per : Int))) (b : Bool) (hb : decide (hasP per x) = b) :
    Calls Try.prog 34 #[.pointer (some ⟨L, 0, none⟩), .int .i64 x] w fun e w' => e = .returned (.bool b) ∧ w = w' := by
  have HB := Lib.hid hb
  clear hb
  by_cases h1 : 0 ≤ x
  · by_cases h2 : x < (per : Int)
    · have e1 : b = true := by rw [← HB.out]; simp [hasP, h1, h2]
      subst e1
      clear HB
      go_enter Try.func34, Try.ntmps34
      go_wp2_with fail
      go_ret
      exact ⟨rfl, rfl⟩
    · have e1 : b = false := by rw [← HB.out]; simp [hasP, h2]
      subst e1
      clear HB
      go_enter Try.func34, Try.ntmps34
      go_wp2_with fail
      go_ret
      exact ⟨rfl, rfl⟩
  · have e1 : b = false := by rw [← HB.out]; simp [hasP, h1]
    subst e1
    clear HB
    go_enter Try.func34, Try.ntmps34
    go_wp2_with fail
    go_ret
    exact ⟨rfl, rfl⟩
theorem known_is (L n c : Nat) (E : Option Addr) (x : Int) (w : World) (c2 : w.cell? ⟨L, 2, none⟩ = some (.slice E n c)) (b : Bool) (hb : decide (hasP n x) = b) :
    Calls Try.prog 36 #[.pointer (some ⟨L, 0, none⟩), .int .i64 x] w fun e w' => e = .returned (.bool b) ∧ w = w' := by
  have HB := Lib.hid hb
  clear hb
  by_cases h1 : 0 ≤ x
  · by_cases h2 : x < (n : Int)
    · have e1 : b = true := by rw [← HB.out]; simp [hasP, h1, h2]
      subst e1
      clear HB
      go_enter Try.func36, Try.ntmps36
      go_wp2_with fail
      go_ret
      exact ⟨rfl, rfl⟩
    · have e1 : b = false := by rw [← HB.out]; simp [hasP, h2]
      subst e1
      clear HB
      go_enter Try.func36, Try.ntmps36
      go_wp2_with fail
      go_ret
      exact ⟨rfl, rfl⟩
  · have e1 : b = false := by rw [← HB.out]; simp [hasP, h1]
    subst e1
    clear HB
    go_enter Try.func36, Try.ntmps36
    go_wp2_with fail
    go_ret
    exact ⟨rfl, rfl⟩
open Classical in
noncomputable def chkE (per : Nat) (opn : Int) (n : Nat) (x : Int) (ps : List Post) : Int :=
  if ¬ hasP per x ∨ ps.length = 0 ∨ 32 < ps.length ∨ noAny ps = true then 1 else if x < opn then 7 else if ¬ evenP ps then 10 else if n = 5000 then 4 else 0
set_option maxHeartbeats 1000000 in
set_option maxRecDepth 100000 in
theorem check_is (L per m ce : Nat) (opn x : Int) (E A : Option Addr) (vM : Value) (ps : List Post) (c : Nat) (w : World) (hL : Blk w L 63 #[.int .i64 (per : Int), .int .i64 opn, .slice E m ce, vM])
    (hr : Row w 0 A (cells ps)) (hl : ps.length ≤ 1000) (hI : ∀ p ∈ ps, Post.I p) (hm : m ≤ 1000000) :
    Calls Try.prog 39 #[.pointer (some ⟨L, 0, none⟩), .int .i64 x, .slice A ps.length c] w fun e w' => e = .returned (.int .i64 (chkE per opn m x ps)) ∧ Below w.heap.size w w' := by
  have HC := Lib.hid (fun w1 (h : Row w1 0 A (cells ps)) b hb => contains_no A ps c w1 h (by omega) b hb)
  have HE := Lib.hid (fun w1 (h : Row w1 0 A (cells ps)) b hb => even_any A ps c w1 h hl hI b hb)
  have HL := Lib.hid hL
  have HR := Lib.hid hr
  have HX := Lib.hid (show chkE per opn m x ps = chkE per opn m x ps from rfl)
  obtain ⟨E0, hE0⟩ : ∃ E0, chkE per opn m x ps = E0 := ⟨_, rfl⟩
  rw [hE0]
  unfold chkE at hE0
  have c0 : w.cell? ⟨L, 0, none⟩ = some (.int .i64 (per : Int)) := hL.cell 0
  have HC0 := Lib.hid c0
  clear hL hr hI HX c0
  obtain ⟨n, hn⟩ : ∃ n, ps.length = n := ⟨_, rfl⟩
  rw [hn] at hE0 HC HE hl ⊢
  have hgt : (n : Int) = 0 ∨ ¬ (n : Int) = 0 := by omega
  clear hn
  by_cases h1 : hasP per x
  · by_cases h2 : n = 0
    · rw [if_pos (.inr (.inl h2))] at hE0
      subst h2 hE0
      go_enter Try.func39, Try.ntmps39
      go_wp2_with fail
      refine (has_is L per x _ HC0.out true (by simpa using h1)).mono ?_
      rintro e w1 ⟨rfl, rfl⟩
      go_wp2_with fail
      go_ret
      exact ⟨rfl, Below.refl _ _⟩
    · have k2 : ((n : Int) == 0) = false := by simp; omega
      have k2' : ¬ (n : Int) = 0 := by omega
      by_cases h3 : 32 < n
      · rw [if_pos (.inr (.inr (.inl h3)))] at hE0
        subst hE0
        have k3 : (32 : Int) < (n : Int) := by omega
        go_enter Try.func39, Try.ntmps39
        go_wp2_with fail
        refine (has_is L per x _ HC0.out true (by simpa using h1)).mono ?_
        rintro e w1 ⟨rfl, rfl⟩
        go_wp2_with fail
        go_ret
        exact ⟨rfl, Below.refl _ _⟩
      · have k3 : ¬ (32 : Int) < (n : Int) := by omega
        by_cases h4 : noAny ps = true
        · rw [if_pos (.inr (.inr (.inr h4)))] at hE0
          subst hE0
          go_enter Try.func39, Try.ntmps39
          go_wp2_with fail
          refine (has_is L per x _ HC0.out true (by simpa using h1)).mono ?_
          rintro e w1 ⟨rfl, rfl⟩
          go_wp2_with fail
          refine (HC.out _ HR.out true h4).mono ?_
          rintro e w1 ⟨rfl, hb⟩
          have HB := Lib.hid hb
          clear hb
          go_wp2_with fail
          go_ret
          exact ⟨rfl, HB.out⟩
        · have h4' : noAny ps = false := by simpa using h4
          rw [if_neg (by simp [h1, h2, h3, h4'])] at hE0
          have HE0 := Lib.hid hE0
          clear hE0
          go_enter Try.func39, Try.ntmps39
          go_wp2_with fail
          refine (has_is L per x _ HC0.out true (by simpa using h1)).mono ?_
          rintro e w1 ⟨rfl, rfl⟩
          go_wp2_with fail
          refine (HC.out _ HR.out false h4').mono ?_
          rintro e w1 ⟨rfl, hb⟩
          have HB := Lib.hid hb
          have c1 : w1.cell? ⟨L, 1, none⟩ = some (.int .i64 opn) := (HL.out.below hb HL.out.lt).cell 1
          clear hb
          by_cases h5 : x < opn
          · have hE0 := HE0.out
            rw [if_pos h5] at hE0
            subst hE0
            go_wp2_with fail
            go_ret
            exact ⟨rfl, HB.out⟩
          · go_wp2_with fail
            by_cases h6 : evenP ps
            · refine (HE.out _ (HR.out.below HB.out) true (by simp [h6])).mono ?_
              rintro e w2 ⟨rfl, hb⟩
              have HB2 := Lib.hid (HB.out.trans (hb.mono HB.out.size))
              have c2 : w2.cell? ⟨L, 2, none⟩ = some (.slice E m ce) := (HL.out.below HB2.out HL.out.lt).cell 2
              clear hb
              by_cases h7 : m = 5000
              · have hE0 := HE0.out
                rw [if_neg (show ¬ x < opn by omega), if_neg (by simp [h6]), if_pos h7] at hE0
                subst hE0 h7
                go_wp2_with fail
                go_ret
                exact ⟨rfl, HB2.out⟩
              · have hE0 := HE0.out
                rw [if_neg (show ¬ x < opn by omega), if_neg (by simp [h6]), if_neg h7] at hE0
                subst hE0
                have k7 : ((m : Int) == 5000) = false := by simp; omega
                have k7' : ¬ (m : Int) = 5000 := by omega
                go_wp2_with fail
                go_ret
                exact ⟨rfl, HB2.out⟩
            · have hE0 := HE0.out
              rw [if_neg (show ¬ x < opn by omega), if_pos h6] at hE0
              subst hE0
              refine (HE.out _ (HR.out.below HB.out) false (by simp [h6])).mono ?_
              rintro e w2 ⟨rfl, hb⟩
              have HB2 := Lib.hid (HB.out.trans (hb.mono HB.out.size))
              clear hb
              go_wp2_with fail
              go_ret
              exact ⟨rfl, HB2.out⟩
  · rw [if_pos (.inl h1)] at hE0
    subst hE0
    go_enter Try.func39, Try.ntmps39
    go_wp2_with fail
    refine (has_is L per x _ HC0.out false (by simpa using h1)).mono ?_
    rintro e w1 ⟨rfl, rfl⟩
    go_wp2_with fail
    go_ret
    exact ⟨rfl, Below.refl _ _⟩
end
section
open Go.RowKit Go.Proofs.Ytmijcgcppankcaa.Cents Go.Proofs.Ytmijcgcppankcaa.MV Go.Proofs.Ytmijcgcppankcaa.Net Go.Proofs.Ytmijcgcppankcaa.CO
open Go.Maps (Keyed)
set_option linter.unusedVariables false
set_option linter.unusedSimpArgs false

structure Ent where
  q : Nat
  ps : List Post
  turned : Bool
structure EV where
  e : Ent
  v : Value
def evc (x : EV) : List Value := [.int .i64 (x.e.q : Int), x.v, .bool x.e.turned]
theorem evc_len (x : EV) : (evc x).length = 3 := rfl
def ents (xs : List EV) : List Ent := xs.map (·.e)
def pam (a c : Int) (ps : List Post) : List Int := (ps.filter (fun p => decide (p.acc = a ∧ p.ct = c))).map (·.amt)
def movL (es : List Ent) (a c : Int) (q : Nat) : Int := (es.map (fun e => if e.q = q then (pam a c e.ps).sum else 0)).sum
def rowL (es : List Ent) (per : Nat) (a c : Int) : List Int := (List.range per).map (movL es a c)
theorem rowL_len (es : List Ent) (per : Nat) (a c : Int) : (rowL es per a c).length = per := by simp [rowL]
theorem movL_snoc (es : List Ent) (e : Ent) (a c : Int) (q : Nat) : movL (es ++ [e]) a c q = movL es a c q + if e.q = q then (pam a c e.ps).sum else 0 := by
  unfold movL
  rw [List.map_append, List.sum_append]
  simp
theorem rowL_get {es : List Ent} {per : Nat} {a c : Int} {q : Nat} (h : q < per) : (rowL es per a c).getD q 0 = movL es a c q := by
  simp [rowL, List.getD_eq_getElem?_getD, h]
theorem row_post {es : List Ent} {per q : Nat} {ps : List Post} {t : Bool} {a c : Int} (hq : q < per) : rowL (es ++ [⟨q, ps, t⟩]) per a c = newRow (rowL es per a c) q (pam a c ps) := by
  unfold newRow
  apply List.ext_getElem
  · simp [rowL]
  · intro i h1 h2
    rw [List.getElem_set]
    have hi : i < per := by simpa [rowL] using h1
    simp only [rowL, List.getElem_map, List.getElem_range]
    rw [movL_snoc]
    by_cases h : q = i
    · subst h
      rw [if_pos rfl, if_pos rfl]
      rw [show ((List.range per).map (movL es a c)).getD q 0 = movL es a c q from rowL_get hq]
      simp only
      omega
    · rw [if_neg h, if_neg h]; omega
theorem row_same {es : List Ent} {per q : Nat} {ps : List Post} {t : Bool} {a c : Int} (h : pam a c ps = []) : rowL (es ++ [⟨q, ps, t⟩]) per a c = rowL es per a c := by
  unfold rowL
  apply List.map_congr_left
  intro i _
  rw [movL_snoc]
  simp [h]
theorem row_turn {es : List Ent} {f : Ent → Ent} (hf : ∀ e, (f e).q = e.q ∧ (f e).ps = e.ps) (per : Nat) (a c : Int) : rowL (es.map f) per a c = rowL es per a c := by
  unfold rowL movL
  apply List.map_congr_left
  intro i _
  rw [List.map_map]
  congr 1
  apply List.map_congr_left
  intro e _
  simp [(hf e).1, (hf e).2]
open Classical in
noncomputable def gP (ps : List Post) : Lit → List Value := fun kl => ints ((ps.filter (fun p => decide (plit p.acc p.ct = kl))).map (·.amt))
theorem gP_at {ps : List Post} (hI : ∀ p ∈ ps, Post.I p) {a c : Int} (ha : I64 a) (hc : I64 c) : gP ps (plit a c) = ints (pam a c ps) := by
  unfold gP pam
  congr 2
  apply List.filter_congr
  intro p hp
  have := hI p hp
  by_cases h : p.acc = a ∧ p.ct = c
  · simp [h.1, h.2]
  · have h2 : plit p.acc p.ct ≠ plit a c := fun e => h (plit_inj this.1 this.2.1 ha hc e)
    simp [h, h2]
theorem gP_put (ps : List Post) (p : Post) : gput (gP ps) (plit p.acc p.ct) (.int .i64 p.amt) = gP (ps ++ [p]) := by
  funext kl
  unfold gput
  by_cases h : kl = plit p.acc p.ct
  · subst h
    simp [gP, List.filter_append, ints]
  · have h2 : plit p.acc p.ct ≠ kl := fun e => h e.symm
    simp [gP, List.filter_append, h, h2]
theorem gP_len (ps : List Post) (kl : Lit) : (gP ps kl).length ≤ ps.length := by
  unfold gP
  rw [ints_len, List.length_map]
  exact List.length_filter_le _ _
theorem pam_I {ps : List Post} (h : ∀ p ∈ ps, Post.I p) (a c : Int) : ∀ x ∈ pam a c ps, I64 x := fun x hx => by
  obtain ⟨p, hp, rfl⟩ := List.mem_map.1 hx
  exact (h p (List.mem_filter.1 hp).1).2.2
theorem pam_some {ps : List Post} {a c : Int} (h : pam a c ps ≠ []) : ∃ p ∈ ps, p.acc = a ∧ p.ct = c := by
  unfold pam at h
  rw [ne_eq, List.map_eq_nil_iff, List.filter_eq_nil_iff] at h
  simpa using h
theorem pam_pos {ps : List Post} {p : Post} (h : p ∈ ps) : pam p.acc p.ct ps ≠ [] := by
  unfold pam
  rw [ne_eq, List.map_eq_nil_iff, List.filter_eq_nil_iff]
  intro h2
  exact h2 p h (by simp)
/-- What a ledger keeps of its numbers. -/
structure LedG (per : Nat) (opn : Int) (xs : List EV) : Prop where
  per1 : 1 ≤ per
  per2 : per ≤ 240
  o0 : 0 ≤ opn
  o1 : opn ≤ (per : Int)
  len : xs.length ≤ 5000
  ok : ∀ x ∈ xs, x.e.q < per ∧ 1 ≤ x.e.ps.length ∧ x.e.ps.length ≤ 32 ∧ ∀ p ∈ x.e.ps, Post.I p ∧ mayP p.acc p.ct
  fit : ∀ a c, I64 a → I64 c → ∀ q, q < per → I64 (movL (ents xs) a c q) ∧ I64 ((rowL (ents xs) per a c).take (q + 1)).sum
theorem LedG.I {per : Nat} {opn : Int} {xs : List EV} (h : LedG per opn xs) {a c : Int} (ha : I64 a) (hc : I64 c) : ∀ x ∈ rowL (ents xs) per a c, I64 x := fun x hx => by
  unfold rowL at hx
  obtain ⟨q, hq, rfl⟩ := List.mem_map.1 hx
  exact (h.fit a c ha hc q (List.mem_range.1 hq)).1
/-- How a ledger lies. -/
structure LedW (b0 L per : Nat) (opn : Int) (xs : List EV) (E : Option Addr) (c M : Nat) (f : KF) (w : World) : Prop where
  led : Blk w L 63 #[.int .i64 (per : Int), .int .i64 opn, .slice E xs.length c, .map (some M)]
  map : MapV Try.prog 74 M (40 * xs.length) f w
  row : ∀ a c v, I64 a → I64 c → f (plit a c) = some v → ∃ g, v = .slice (some ⟨g, 0, none⟩) per per ∧ Blk w g 2 (ints (rowL (ents xs) per a c)).toArray
  no : ∀ a c, I64 a → I64 c → f (plit a c) = none → rowL (ents xs) per a c = zeros per
  keys : ∀ kl v, f kl = some v → ∃ a c, I64 a ∧ I64 c ∧ mayP a c ∧ kl = plit a c
  own : w.ownsRow b0 77 3 (.slice E xs.length c) xs.length (xs.flatMap evc)
  pst : ∀ x ∈ xs, w.ownsRow b0 48 3 x.v x.e.ps.length (cells x.e.ps)
  hL : b0 ≤ L
  hM : b0 ≤ M
section
variable {b0 L per : Nat} {opn : Int} {xs : List EV} {E : Option Addr} {c M : Nat} {f : KF} {w w' : World}
theorem LedW.later (h : LedW b0 L per opn xs E c M f w) (hb : Below w.heap.size w w') : LedW b0 L per opn xs E c M f w' :=
  ⟨h.led.below hb h.led.lt, h.map.later hb, fun a c v ha hc hv => by obtain ⟨g, e, hg⟩ := h.row a c v ha hc hv; exact ⟨g, e, hg.below hb hg.lt⟩, h.no, h.keys, own_below h.own hb, fun x hx => own_below (h.pst x hx) hb, h.hL, h.hM⟩
/-- The blocks that a ledger writes. -/
def LS (L M : Nat) (E : Option Addr) (n c : Nat) : Nat → Prop := fun q => q = L ∨ q = M ∨ (Value.slice E n c).ownBlock = some q
/-- What a look-up at a place tells. -/
theorem LedW.look (h : LedW b0 L per opn xs E c M f w) {a k : Int} (ha : I64 a) (hk : I64 k) : ∃ B nn cv cs, (f (plit a k)).getD (.slice none 0 0) = .slice B nn cv ∧ cs.length = nn ∧ nn ≤ per ∧ Row w 0 B cs ∧ (∀ v ∈ cs, v.oneCell' = true) ∧ splice (ints (zeros per)) 0 cs = ints (rowL (ents xs) per a k) ∧
    (nn = 0 ∧ rowL (ents xs) per a k = zeros per ∨ nn = per ∧ cs = ints (rowL (ents xs) per a k) ∧ ∃ g, B = some ⟨g, 0, none⟩) := by
  cases hf : f (plit a k) with
  | none =>
    have hz := h.no a k ha hk hf
    exact ⟨none, 0, 0, [], rfl, rfl, Nat.zero_le _, Row.none_, by simp, by rw [hz]; simp [splice], .inl ⟨rfl, hz⟩⟩
  | some v =>
    obtain ⟨g, rfl, hg⟩ := h.row a k v ha hk hf
    have hl := rowL_len (ents xs) per a k
    refine ⟨some ⟨g, 0, none⟩, per, per, ints (rowL (ents xs) per a k), rfl, by rw [ints_len, hl], Nat.le_refl _, Row.of_blk hg (Nat.zero_le _) rfl, by simp [ints, Value.oneCell'], ?_, .inr ⟨rfl, rfl, g, rfl⟩⟩
    unfold splice
    rw [List.take_zero, List.nil_append, Nat.zero_add, List.drop_of_length_le (by rw [ints_len, ints_len, hl]; simp [zeros]), List.append_nil]
end
end
section
open Go.RowKit Go.Proofs.Ytmijcgcppankcaa.Cents Go.Proofs.Ytmijcgcppankcaa.MV Go.Proofs.Ytmijcgcppankcaa.Net Go.Proofs.Ytmijcgcppankcaa.CO
open Go.Maps (Keyed)
set_option linter.unusedVariables false
set_option linter.unusedSimpArgs false

/-- While Post groups: the map 'more', its rows. -/
structure MoW (w0 : World) (ps : List Post) (M k : Nat) (f : KF) (w : World) : Prop where
  map : MapV Try.prog 74 M k f w
  grp : Grp w0.heap.size 2 f (gP ps) w
  be : Below w0.heap.size w0 w
  hM : w0.heap.size ≤ M
theorem MoW.later {w0 w w' : World} {ps : List Post} {M k : Nat} {f : KF} (h : MoW w0 ps M k f w) (hb : Below w.heap.size w w') : MoW w0 ps M k f w' := ⟨h.map.later hb, h.grp.later hb, h.be.trans (hb.mono h.be.size), h.hM⟩
theorem mo_entry {w0 wz : World} {qs : List Post} {M k : Nat} {f : KF} {p : Post} (hE : MoW w0 qs M k f wz) (hpI : Post.I p) (hk : k ≤ 1000) (hq : qs.length ≤ k) :
    ∃ (st : Nat) (w1 : World) (B : Option Addr) (N cv : Nat), (Instr.mapEntry 60 (.map (some M)) (.agg #[.int .i64 p.acc, .int .i64 p.ct])).run Try.prog wz = .ok (.tuple #[.slice B N cv, .int .i64 (st : Int)]) w1 ∧ wz.grownBy w1 (some M) ∧ w1.heap.size = wz.heap.size ∧ N ≤ k ∧
      w1.ownsRow w0.heap.size 2 1 (.slice B N cv) N (gP qs (plit p.acc p.ct)) ∧
      ∀ g cap w6, w6.ownsRow w0.heap.size 2 1 (.slice (some ⟨g, 0, none⟩) (N + 1) cap) (N + 1) (gP qs (plit p.acc p.ct) ++ [.int .i64 p.amt]) → w1.grownBy w6 (Value.slice B N cv).ownBlock → ((Value.slice B N cv).ownBlock = some g ∨ g = w1.heap.size) →
        ∃ w7, (Instr.entryStore 60 (.map (some M)) (.int .i64 (st : Int)) (.slice (some ⟨g, 0, none⟩) (N + 1) cap)).run Try.prog w6 = .ok () w7 ∧ MoW w0 (qs ++ [p]) M (k + 1) (upd f (plit p.acc p.ct) (.slice (some ⟨g, 0, none⟩) (N + 1) cap)) w7 := by
  obtain ⟨st, w1, hrun, hg1, hs1, ⟨es1, ck1, hes1⟩, hnext⟩ := mapV_entry hE.map law_pl keyed_pl Try.underlying60 zero_l (by unfold maxLen; omega) (pkey hpI.1 hpI.2.1)
  have hgrp1 : Grp w0.heap.size 2 f (gP qs) w1 := hE.grp.kept hg1 (fun kl v b hf hb e => by
    injection e with e
    subst e
    obtain ⟨cs, t2, hh⟩ := own_cells (hE.grp.own kl v hf) b hb
    exact hE.map.not_cells hh rfl)
  have hown := hgrp1.at (plit p.acc p.ct)
  obtain ⟨v, hv⟩ : ∃ v, (f (plit p.acc p.ct)).getD (.slice none 0 0) = v := ⟨_, rfl⟩
  rw [hv] at hown hrun
  obtain ⟨B, cv, rfl, hcv⟩ := own_slice hown
  refine ⟨st, w1, B, _, cv, hrun, hg1, hs1, Nat.le_trans (gP_len qs _) hq, hown, fun g cap w6 hown6 hg6 hat6 => ?_⟩
  have hMv : some M ≠ (Value.slice B (gP qs (plit p.acc p.ct)).length cv).ownBlock := fun e => by
    obtain ⟨cs, t2, hh⟩ := own_cells (hgrp1.at (plit p.acc p.ct)) M (by rw [hv]; exact e.symm)
    rw [hes1] at hh
    cases hh
  have hM6 : w6.heap[M]? = w1.heap[M]? := hg6.block M (by rw [hs1]; exact hE.map.lt) hMv
  obtain ⟨w7, hr7, hm7, hg7⟩ := hnext w6 (some ⟨g, 0, none⟩) _ cap hM6
  refine ⟨w7, hr7, hm7, ?_, ?_, hE.hM⟩
  · rw [← gP_put]
    refine hgrp1.put2 rfl hown6 (by rw [hv]; exact hg6) (fun b hb => ?_) hg7 (fun b hb e => ?_)
    · rw [hv]
      injection hb with hb
      subst hb
      exact hat6
    · obtain ⟨cs, t2, hh⟩ := hb
      injection e with e
      rw [e, hM6, hes1] at hh
      cases hh
  · have h1 := hE.be.grown hg1 hE.be.size (fun j hj => by injection hj with hj; subst hj; exact hE.hM)
    have h2 := h1.grown hg6 h1.size (fun j hj => (hown.lt j hj).1)
    exact h2.grown hg7 h2.size (fun j hj => by injection hj with hj; subst hj; exact hE.hM)
theorem info_en : (Try.prog.info? 77).map (fun i => (i.zero, i.size, i.bytes)) = some (some (.agg #[.int .i64 0, .slice none 0 0, .bool false]), 3, 40) := by kernel_rfl
theorem E_en : ElemT Try.prog 61 77 3 40 := .mk' Try.underlying61 info_en rfl (by decide)
theorem own_empty3 (w : World) (e size : Nat) (base : Nat) (h : base ≤ w.heap.size) : (w.alloc (.cells #[] e)).ownsRow base e size (.slice (some ⟨w.heap.size, 0, none⟩) 0 0) 0 [] := by
  refine ⟨by simp, .inr ⟨w.heap.size, 0, #[], rfl, h, heap_alloc_new w _, Nat.le_refl _, by unfold maxLen; omega, by simp, by simp⟩⟩
theorem cells_one' (ps : List Post) : ∀ u ∈ cells ps, u.oneCell' = true := fun u hu => by
  unfold cells at hu
  obtain ⟨p, _, hp⟩ := List.mem_flatMap.1 hu
  simp [Post.cells] at hp
  rcases hp with rfl | rfl | rfl <;> rfl
theorem pclone_any (A : Option Addr) (ps : List Post) (c : Nat) (w : World) (h0 : 1 ≤ ps.length) (hr : Row w 0 A (cells ps)) (hl : ps.length ≤ 1000000) :
    Calls Try.prog 37 #[.slice A ps.length c] w (fun e w' => ∃ g cap, e = .returned (.slice (some ⟨g, 0, none⟩) ps.length cap) ∧ w'.ownsRow w.heap.size 48 3 (.slice (some ⟨g, 0, none⟩) ps.length cap) ps.length (cells ps) ∧ Below w.heap.size w w') := by
  have hpos : 0 < (cells ps).length := by rw [cells_len]; omega
  obtain ⟨ad, rfl, _, hc⟩ := hr hpos
  have HC := Lib.hid (fun j u h => cell_below' (alloc1 w (.cells #[] 48)) (hc j u h))
  have HL := Lib.hid (cells_len ps)
  have HO := Lib.hid (own_empty3 w 48 3 w.heap.size (Nat.le_refl _))
  have HCO := Lib.hid (cells_one' ps)
  obtain ⟨n, hn⟩ : ∃ n, ps.length = n := ⟨_, rfl⟩
  have HN := Lib.hid hn
  rw [hn] at hl HL h0 ⊢
  have h1 : 0 < n := by omega
  have hb1 : (0 + n) * 24 ≤ 140737488355328 := by omega
  have hb2 : 0 + n ≤ maxLen := by unfold maxLen; omega
  have HE := Lib.run_eql_slice_nil (P := Try.prog) w 32 48 (some ad) n c 0 0 Try.underlying32
  clear hpos hr hc hn
  go_enter Try.func37, Try.ntmps37
  go_wp2_with (at_builtin; refine wpList_app E_post rfl (.tmp 5) (.tmp 6) rfl rfl HO.out ad n c (cells ps) rfl HL.out HC.out HCO.out hb1 hb2 (by simp) h1 ?_; intro g cap w2 hown hg hat; have HO2 := Lib.hid hown; have HB2 := Lib.hid ((alloc1 w (.cells #[] 48)).grown hg (by simp) (fun j hj => by have := (HO.out.lt j hj).1; omega)); clear hown hg hat)
  go_ret
  have hown := HO2.out
  rw [Nat.zero_add, List.nil_append] at hown
  exact ⟨g, cap, by simp, hown, HB2.out⟩
end
end Go.Proofs.Ytmijcgcppankcaa.AC
