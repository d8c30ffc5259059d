/- A book and the reference's book, side by side. -/
import Derived.Test.YtleocecfcamjnaaBookR4
namespace Go.Proofs.Ytleocecfcamjnaa.BK
open Go.RowKit Go.Proofs.Ytleocecfcamjnaa.Cents
set_option linter.unusedVariables false
set_option linter.unusedSimpArgs false

def rsets (n : Nat) (l : List Pz) : List Pz := l.foldl (fun L p => rsetL n L p.item p.day p.n) []
theorem rsets_take {n : Nat} {l : List Pz} {k : Nat} (h : k < l.length) : rsets n (l.take (k + 1)) = rsetL n (rsets n (l.take k)) (pzAt l k).item (pzAt l k).day (pzAt l k).n := by
  unfold rsets
  rw [List.take_succ_eq_append_getElem h, List.foldl_append]
  simp [pzAt, List.getD_eq_getElem?_getD, h]
theorem rsets_aux {its : List It} (hI : ∀ x ∈ its, ItI x) (l : List Pz) (hl : ∀ p ∈ l, I64 p.n) : ∀ (R : List PRow) (L : List Pz), BkOk its R → Match its R L →
    Match its (sets its R l) (l.foldl (fun L p => rsetL its.length L p.item p.day p.n) L) ∧ (l.foldl (fun L p => rsetL its.length L p.item p.day p.n) L).length ≤ L.length + l.length := by
  induction l with
  | nil => intro R L _ h; exact ⟨h, by simp⟩
  | cons p l ih =>
    intro R L hk h
    have h1 := h.set hk.rlen p.item p.day p.n
    have h2 := ih (fun q hq => hl q (List.mem_cons_of_mem _ hq)) _ _ (set_BkOk hk p.item p.day p.n (hl p List.mem_cons_self)) h1
    refine ⟨h2.1, Nat.le_trans h2.2 ?_⟩
    have : (rsetL its.length L p.item p.day p.n).length ≤ L.length + 1 := by
      unfold rsetL
      split
      · simp
      · omega
    simp only [List.length_cons]
    omega
theorem rsets_ok {its : List It} (hI : ∀ x ∈ its, ItI x) (hE : newE its = 0) (l : List Pz) (hl : ∀ p ∈ l, I64 p.n) : Match its (sets its (rows0 its) l) (rsets its.length l) ∧ (rsets its.length l).length ≤ l.length := by
  have := rsets_aux hI l hl _ _ (new_BkOk hE hI) (match_new its)
  exact ⟨this.1, by simpa [rsets] using this.2⟩

/-- Both books, apart, of the call's own; blocks of X are none of theirs. -/
structure Two (X : Nat → Prop) (w0 : World) (b r : Nat) (its : List It) (R : List PRow) (L : List Pz) (w : World) : Prop where
  ex : ∃ S T, BkW S b its R w ∧ RbW T r its L w ∧ (∀ k, S k → w0.heap.size ≤ k ∧ k < w.heap.size ∧ ¬ X k) ∧ (∀ k, T k → w0.heap.size ≤ k ∧ k < w.heap.size ∧ ¬ X k) ∧ ∀ k, S k → ¬ T k
  be : Below w0.heap.size w0 w
  xlt : ∀ k, X k → k < w.heap.size
section
variable {X : Nat → Prop} {w0 w w' : World} {b r : Nat} {its : List It} {R R' : List PRow} {L L' : List Pz}
theorem Two.bk (h : Two X w0 b r its R L w) : ∃ S, BkW S b its R w := by obtain ⟨⟨S, T, h1, _⟩, _, _⟩ := h; exact ⟨S, h1⟩
theorem Two.rb (h : Two X w0 b r its R L w) : ∃ T, RbW T r its L w := by obtain ⟨⟨S, T, _, h2, _⟩, _, _⟩ := h; exact ⟨T, h2⟩
theorem Two.later (h : Two X w0 b r its R L w) (hb : Below w.heap.size w w') : Two X w0 b r its R L w' := by
  obtain ⟨⟨S, T, h1, h2, h3, h4, h5⟩, h6, h7⟩ := h
  exact ⟨⟨S, T, h1.later hb, h2.later hb, fun k hk => ⟨(h3 k hk).1, Nat.lt_of_lt_of_le (h3 k hk).2.1 hb.size, (h3 k hk).2.2⟩, fun k hk => ⟨(h4 k hk).1, Nat.lt_of_lt_of_le (h4 k hk).2.1 hb.size, (h4 k hk).2.2⟩, h5⟩, below_in h6 hb, fun k hk => Nat.lt_of_lt_of_le (h7 k hk) hb.size⟩
theorem Two.drop (h : Two X w0 b r its R L w) : Two (fun _ => False) w0 b r its R L w := by
  obtain ⟨⟨S, T, h1, h2, h3, h4, h5⟩, h6, h7⟩ := h
  exact ⟨⟨S, T, h1, h2, fun k hk => ⟨(h3 k hk).1, (h3 k hk).2.1, id⟩, fun k hk => ⟨(h4 k hk).1, (h4 k hk).2.1, id⟩, h5⟩, h6, fun _ h => h.elim⟩
theorem Two.box (h : Two X w0 b r its R L w) (o : Obj) : Two (fun k => k = w.heap.size) w0 b r its R L (w.alloc o) := by
  obtain ⟨⟨S, T, h1, h2, h3, h4, h5⟩, h6, h7⟩ := h
  have hs : (w.alloc o).heap.size = w.heap.size + 1 := by simp
  exact ⟨⟨S, T, h1.later (alloc1 w o), h2.later (alloc1 w o), fun k hk => ⟨(h3 k hk).1, by have := (h3 k hk).2.1; omega, by have := (h3 k hk).2.1; omega⟩, fun k hk => ⟨(h4 k hk).1, by have := (h4 k hk).2.1; omega, by have := (h4 k hk).2.1; omega⟩, h5⟩, below_in h6 (alloc1 w o), fun k hk => by omega⟩
theorem Two.call {f : FuncId} {args : Array Value} {v : Value} (h : Two X w0 b r its R L w) (c : Calls Try.prog f args w fun e w' => e = .returned v ∧ Below w.heap.size w w') :
    Calls Try.prog f args w fun e w' => e = .returned v ∧ Two X w0 b r its R L w' ∧ Below w.heap.size w w' :=
  c.mono fun _ _ ⟨h1, h2⟩ => ⟨h1, h.later h2, h2⟩
theorem Two.setB (h : Two X w0 b r its R L w) (hk : BkOk its R) (item day n x : Int) (hx : setE its R item day n = x ∧ setR its R item day n = R') :
    Calls Try.prog 10 #[.pointer (some ⟨b, 0, none⟩), .int .i64 item, .int .i64 day, .int .i64 n] w fun e w' => e = .returned (.int .i64 x) ∧ Two X w0 b r its R' L w' ∧ ∀ k, X k → w'.heap[k]? = w.heap[k]? := by
  obtain ⟨⟨S, T, h1, h2, h3, h4, h5⟩, h6, h7⟩ := h
  refine (set_any h1 hk item day n x R' hx).mono ?_
  rintro e w' ⟨rfl, S', k1, k2, k3, k4⟩
  have hlt : ∀ k, S' k → k < w'.heap.size := by obtain ⟨I, cI, v, vals, q⟩ := k1; exact q.lt
  refine ⟨rfl, ⟨⟨S', T, k1, h2.fr k2 fun k hk hs => h5 k hs hk, fun k hk => ?_, fun k hk => ⟨(h4 k hk).1, Nat.lt_of_lt_of_le (h4 k hk).2.1 k2.size, (h4 k hk).2.2⟩, fun k hk ht => ?_⟩, h6.trans (fr_below k2 h6.size fun k hk => (h3 k hk).1), fun k hk => Nat.lt_of_lt_of_le (h7 k hk) k2.size⟩, fun k hk => k2.block k (h7 k hk) fun hs => (h3 k hs).2.2 hk⟩
  · rcases k4 k hk with q | q
    · exact ⟨(h3 k q).1, hlt k hk, (h3 k q).2.2⟩
    · exact ⟨Nat.le_trans h6.size q, hlt k hk, fun hx => by have := h7 k hx; omega⟩
  · rcases k4 k hk with q | q
    · exact h5 k q ht
    · have := (h4 k ht).2.1; omega
theorem Two.setR (h : Two X w0 b r its R L w) (hl : L.length ≤ 1000) (item day n x : Int) (hx : rsetE its.length L item day n = x ∧ rsetL its.length L item day n = L') :
    Calls Try.prog 11 #[.pointer (some ⟨r, 0, none⟩), .int .i64 item, .int .i64 day, .int .i64 n] w fun e w' => e = .returned (.int .i64 x) ∧ Two X w0 b r its R L' w' ∧ ∀ k, X k → w'.heap[k]? = w.heap[k]? := by
  obtain ⟨⟨S, T, h1, h2, h3, h4, h5⟩, h6, h7⟩ := h
  refine (rset_any h2 hl item day n x L' hx).mono ?_
  rintro e w' ⟨rfl, T', k1, k2, k3, k4⟩
  have hlt : ∀ k, T' k → k < w'.heap.size := by obtain ⟨I, cI, A, c, q⟩ := k1; exact q.lt
  refine ⟨rfl, ⟨⟨S, T', h1.fr k2 h5, k1, fun k hk => ⟨(h3 k hk).1, Nat.lt_of_lt_of_le (h3 k hk).2.1 k2.size, (h3 k hk).2.2⟩, fun k hk => ?_, fun k hk ht => ?_⟩, h6.trans (fr_below k2 h6.size fun k hk => (h4 k hk).1), fun k hk => Nat.lt_of_lt_of_le (h7 k hk) k2.size⟩, fun k hk => k2.block k (h7 k hk) fun hs => (h4 k hs).2.2 hk⟩
  · rcases k4 k hk with q | q
    · exact ⟨(h4 k q).1, hlt k hk, (h4 k q).2.2⟩
    · exact ⟨Nat.le_trans h6.size q, hlt k hk, fun hx => by have := h7 k hx; omega⟩
  · rcases k4 k ht with q | q
    · exact h5 k hk q
    · have := (h3 k hk).2.1; omega
end
end Go.Proofs.Ytleocecfcamjnaa.BK
