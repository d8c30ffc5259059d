/- Two books side by side; the set of places that were seen. -/
import Derived.Test.YtleocecfcamjnaaBookO
import Derived.Maps.OwnSet
import Derived.Maps.Views
import Derived.WideKeyPair
namespace Go.Proofs.Ytleocecfcamjnaa.BK
open Go.RowKit Go.Proofs.Ytleocecfcamjnaa.Cents Go.WideMaps
open Go.Maps (Keyed)
set_option linter.unusedVariables false
set_option linter.unusedSimpArgs false

/-- Two books, apart, of the call's own; blocks of X are none of theirs. -/
structure TwoP (X : Nat → Prop) (w0 : World) (b r : Nat) (its : List It) (R Q : List PRow) (w : World) : Prop where
  ex : ∃ S T, BkW S b its R w ∧ BkW T r its Q w ∧ (∀ k, S k → w0.heap.size ≤ k ∧ k < w.heap.size ∧ ¬ X k) ∧ (∀ k, T k → w0.heap.size ≤ k ∧ k < w.heap.size ∧ ¬ X k) ∧ ∀ k, S k → ¬ T k
  be : Below w0.heap.size w0 w
  xlt : ∀ k, X k → k < w.heap.size
section
variable {X : Nat → Prop} {w0 w w' : World} {b r : Nat} {its : List It} {R R' Q Q' : List PRow}
theorem TwoP.swap (h : TwoP X w0 b r its R Q w) : TwoP X w0 r b its Q R w := by
  obtain ⟨⟨S, T, h1, h2, h3, h4, h5⟩, h6, h7⟩ := h
  exact ⟨⟨T, S, h2, h1, h4, h3, fun k hk hs => h5 k hs hk⟩, h6, h7⟩
theorem TwoP.bk (h : TwoP X w0 b r its R Q w) : ∃ S, BkW S b its R w := by obtain ⟨⟨S, T, h1, _⟩, _, _⟩ := h; exact ⟨S, h1⟩
theorem TwoP.later (h : TwoP X w0 b r its R Q w) (hb : Below w.heap.size w w') : TwoP X w0 b r its R Q w' := by
  obtain ⟨⟨S, T, h1, h2, h3, h4, h5⟩, h6, h7⟩ := h
  exact ⟨⟨S, T, h1.later hb, h2.later hb, fun k hk => ⟨(h3 k hk).1, Nat.lt_of_lt_of_le (h3 k hk).2.1 hb.size, (h3 k hk).2.2⟩, fun k hk => ⟨(h4 k hk).1, Nat.lt_of_lt_of_le (h4 k hk).2.1 hb.size, (h4 k hk).2.2⟩, h5⟩, below_in h6 hb, fun k hk => Nat.lt_of_lt_of_le (h7 k hk) hb.size⟩
theorem TwoP.drop (h : TwoP X w0 b r its R Q w) : TwoP (fun _ => False) w0 b r its R Q w := by
  obtain ⟨⟨S, T, h1, h2, h3, h4, h5⟩, h6, h7⟩ := h
  exact ⟨⟨S, T, h1, h2, fun k hk => ⟨(h3 k hk).1, (h3 k hk).2.1, id⟩, fun k hk => ⟨(h4 k hk).1, (h4 k hk).2.1, id⟩, h5⟩, h6, fun _ h => h.elim⟩
/-- Blocks that are made behind are none of theirs. -/
theorem TwoP.more (h : TwoP X w0 b r its R Q w) (hb : Below w.heap.size w w') (Y : Nat → Prop) (hY : ∀ k, Y k → w.heap.size ≤ k ∧ k < w'.heap.size) : TwoP Y w0 b r its R Q w' := by
  obtain ⟨⟨S, T, h1, h2, h3, h4, h5⟩, h6, h7⟩ := h
  exact ⟨⟨S, T, h1.later hb, h2.later hb, fun k hk => ⟨(h3 k hk).1, Nat.lt_of_lt_of_le (h3 k hk).2.1 hb.size, fun hy => by have := (h3 k hk).2.1; have := (hY k hy).1; omega⟩, fun k hk => ⟨(h4 k hk).1, Nat.lt_of_lt_of_le (h4 k hk).2.1 hb.size, fun hy => by have := (h4 k hk).2.1; have := (hY k hy).1; omega⟩, h5⟩, below_in h6 hb, fun k hk => (hY k hk).2⟩
theorem TwoP.grown {m : Nat} (h : TwoP X w0 b r its R Q w) (hg : w.grownBy w' (some m)) (hm : X m) (h0 : w0.heap.size ≤ m) : TwoP X w0 b r its R Q w' := by
  obtain ⟨⟨S, T, h1, h2, h3, h4, h5⟩, h6, h7⟩ := h
  have hf : Fr (fun k => k = m) w w' := (Fr.refl _ w).grown hg (fun k e _ => by cases e; rfl)
  exact ⟨⟨S, T, h1.fr hf fun k hk e => (h3 k hk).2.2 (by rw [e]; exact hm), h2.fr hf fun k hk e => (h4 k hk).2.2 (by rw [e]; exact hm), fun k hk => ⟨(h3 k hk).1, Nat.lt_of_lt_of_le (h3 k hk).2.1 hf.size, (h3 k hk).2.2⟩, fun k hk => ⟨(h4 k hk).1, Nat.lt_of_lt_of_le (h4 k hk).2.1 hf.size, (h4 k hk).2.2⟩, h5⟩, h6.trans (fr_below hf h6.size fun k e => by rw [e]; exact h0), fun k hk => Nat.lt_of_lt_of_le (h7 k hk) hf.size⟩
theorem TwoP.price (h : TwoP X w0 b r its R Q w) (hk : BkOk its R) (item day x y : Int) (hx : priceN its R item day = x ∧ priceE its.length item day = y) :
    Calls Try.prog 12 #[.pointer (some ⟨b, 0, none⟩), .int .i64 item, .int .i64 day] w fun e w' => e = .returned (.tuple #[.int .i64 x, .int .i64 y]) ∧ TwoP X w0 b r its R Q w' ∧ Below w.heap.size w w' :=
  h.bk.elim fun _ hb => (price_any hb hk item day x y hx).mono fun _ _ ⟨h1, h2⟩ => ⟨h1, h.later h2, h2⟩
theorem TwoP.set (h : TwoP X w0 b r its R Q w) (hk : BkOk its R) (item day n x : Int) (hx : setE its R item day n = x ∧ setR its R item day n = R') :
    Calls Try.prog 10 #[.pointer (some ⟨b, 0, none⟩), .int .i64 item, .int .i64 day, .int .i64 n] w fun e w' => e = .returned (.int .i64 x) ∧ TwoP X w0 b r its R' Q w' ∧ ∀ k, X k → w'.heap[k]? = w.heap[k]? := by
  obtain ⟨⟨S, T, h1, h2, h3, h4, h5⟩, h6, h7⟩ := h
  refine (set_any h1 hk item day n x R' hx).mono ?_
  rintro e w' ⟨rfl, S', k1, k2, k3, k4⟩
  have hlt : ∀ k, S' k → k < w'.heap.size := by obtain ⟨I, cI, v, vals, q⟩ := k1; exact q.lt
  refine ⟨rfl, ⟨⟨S', T, k1, h2.fr k2 fun k hk hs => h5 k hs hk, fun k hk => ?_, fun k hk => ⟨(h4 k hk).1, Nat.lt_of_lt_of_le (h4 k hk).2.1 k2.size, (h4 k hk).2.2⟩, fun k hk ht => ?_⟩, h6.trans (fr_below k2 h6.size fun k hk => (h3 k hk).1), fun k hk => Nat.lt_of_lt_of_le (h7 k hk) k2.size⟩, fun k hk => k2.block k (h7 k hk) fun hs => (h3 k hs).2.2 hk⟩
  · rcases k4 k hk with q | q
    · exact ⟨(h3 k q).1, hlt k hk, (h3 k q).2.2⟩
    · exact ⟨Nat.le_trans h6.size q, hlt k hk, fun hx => by have := h7 k hx; omega⟩
  · rcases k4 k hk with q | q
    · exact h5 k q ht
    · have := (h4 k ht).2.1; omega
end

theorem arr2 : ArrKey Try.prog 50 3 2 := ⟨Try.underlying50, by kernel_rfl, by kernel_rfl, by kernel_rfl⟩
theorem keyed2 : Keyed Try.prog 50 := Keyed.of_law arr2.law
def klit (a b : Int) : Lit := .string (keyBytes [.int .i64 a, .int .i64 b])
theorem wf_i64 {a : Int} (h : I64 a) : (Lit.int .i64 a).wf = true := by
  unfold I64 at h
  have h1 : IntKind.i64.min = -9223372036854775808 := by decide
  have h2 : IntKind.i64.max = 9223372036854775807 := by decide
  simp [Lit.wf, h1, h2]
  omega
theorem key2 {a b : Int} (ha : I64 a) (hb : I64 b) : keyOf Try.prog 50 (.agg #[.int .i64 a, .int .i64 b]) = some (klit a b) :=
  keyOf_pair arr2 Try.underlying3 ⟨_, rfl⟩ (wf_i64 ha) (wf_i64 hb)
/-- The places of these are in the map at block m. -/
def SeenW (m : Nat) (ps : List Pz) (w : World) : Prop := ∃ n D, World.ownsMap (H := Unit) w Try.prog 50 (plainElem Try.prog 4) m n D ∧ n ≤ ps.length ∧ ∀ p ∈ ps, ∀ z, D.atKey (klit p.item p.day) z = .lit (.bool true)
theorem seen_made (w : World) : SeenW w.heap.size [] (w.alloc (.map #[] 0)) := ⟨0, _, World.ownsMap_made w _ _ _, Nat.le_refl _, by simp⟩
theorem SeenW.later {m : Nat} {ps : List Pz} {w w' : World} (h : SeenW m ps w) (hb : Below w.heap.size w w') : SeenW m ps w' := by
  obtain ⟨n, D, h1, h2, h3⟩ := h
  refine ⟨n, D, ?_, h2, h3⟩
  have hlt := h1.lt
  obtain ⟨es, clock, hh, F, hs, hD⟩ := h1
  exact ⟨es, clock, (hb.block m hlt).trans hh, F, hs, hD⟩
theorem plain_bool {v : Value} {z : DataW Unit × List MemPlace} (h : plainElem Try.prog 4 v = some z) : ∃ x, v = .bool x ∧ z.1 = .lit (.bool x) := by
  unfold plainElem at h
  rw [Try.underlying4] at h
  cases v <;> simp at h
  exact ⟨_, rfl, by rw [← h]⟩
theorem seen_look {m : Nat} {ps : List Pz} {w : World} (h : SeenW m ps w) {a b : Int} (ha : I64 a) (hb : I64 b) :
    ∃ x, (Instr.lookup 49 (.map (some m)) (.agg #[.int .i64 a, .int .i64 b]) false).run Try.prog w = .ok (.bool x) w ∧ (x = false → ∀ p ∈ ps, ¬ (p.item = a ∧ p.day = b)) := by
  obtain ⟨n, D, h1, h2, h3⟩ := h
  obtain ⟨v, qs, hrun, hv⟩ := h1.lookup keyed2 Try.underlying49 (z := .bool false) (by kernel_rfl) (plainElem_bool Try.underlying4 false) (key2 ha hb)
  obtain ⟨x, rfl, hx⟩ := plain_bool hv
  refine ⟨x, hrun, fun e p hp hc => ?_⟩
  subst e
  have := h3 p hp (.lit (.bool false))
  rw [hc.1, hc.2] at this
  simp only at hx
  rw [this] at hx
  simp at hx
theorem seen_put {m : Nat} {ps : List Pz} {w : World} (h : SeenW m ps w) (hl : ps.length ≤ 1000) {a b c : Int} (ha : I64 a) (hb : I64 b) (hI : ∀ p ∈ ps, p.I) :
    ∃ w', (Instr.mapUpdate 49 (.map (some m)) (.agg #[.int .i64 a, .int .i64 b]) (.bool true)).run Try.prog w = .ok () w' ∧ SeenW m (ps ++ [⟨a, b, c⟩]) w' ∧ w.grownBy w' (some m) := by
  obtain ⟨n, D, h1, h2, h3⟩ := h
  have hm := h1.isMap
  obtain ⟨w', hrun, r1, r2⟩ := h1.update keyed2 Try.underlying49 (by unfold maxLen; omega) (key2 ha hb) (plainElem_bool Try.underlying4 true)
  refine ⟨w', hrun, ⟨n + 1, _, r1, by simp; omega, fun p hp z => ?_⟩, r2⟩
  by_cases e : klit p.item p.day = klit a b
  · rw [e]
    exact Maps.atKey_put_same hm (keyed2.key (key2 ha hb)) _ _
  · rw [Maps.atKey_put_other e]
    rcases List.mem_append.1 hp with hp | hp
    · exact h3 p hp z
    · rw [List.mem_singleton] at hp
      subst hp
      exact absurd rfl e
end Go.Proofs.Ytleocecfcamjnaa.BK
