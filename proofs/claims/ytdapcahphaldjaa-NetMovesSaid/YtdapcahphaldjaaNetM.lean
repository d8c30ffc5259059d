/- The walk of the law NetMoves. -/
import Derived.Test.YtdapcahphaldjaaNetK
import Derived.Test.YtdapcahphaldjaaNetEq
namespace Go.Proofs.Ytdapcahphaldjaa
open Go.RowKit
set_option linter.unusedVariables false
/-- Append of nothing. -/
theorem run_append_none {P : Program} (w : World) {t ty e : TypeId} {i : TypeInfo} (ht : P.underlying t = some (.slice e)) (hi : P.info? e = some i) (A B : Option Addr) (n c d : Nat) (hn : n ≤ c) :
    (Builtin.append_ #[t, t] ty #[.slice A n c, .slice B 0 d]).run P w = .ok (.slice A n c) w := by
  cases A <;> cases B <;> simp [Builtin.append_, run_underlying ht, sizeOf, typeInfo, hi, Builtin.lenOf, Builtin.firstCells, loadCells, loadCellsFrom, storeCells, hn]
theorem wpList_app0 {P : Program} {w : World} {t e size bytes : Nat} (hE : ElemT P t e size bytes) {ops : Array Oper} {rest : List Oper} {o : Oper} {a : Act} {Q : Exit → Act → World → Prop} (hgd : o.guard = none) (s x : Operand)
    (ho : o.op = .call { callee := .builtin .append, args := #[s, x], argTypes := #[t, t] }) {A B : Option Addr} {n c d : Nat} (hs : a.eval s = .slice A n c) (hx : a.eval x = .slice B 0 d) (hn : n ≤ c)
    (h : wpList P ops Q rest (a.put o.dst (.slice A n c)) w) : wpList P ops Q (o :: rest) a w := by
  obtain ⟨i, z, hu, hi, hz, hsz, hby, hzs, hpos⟩ := hE.ex
  refine wpList_plain hgd fun _ hK => ?_
  unfold Oper.wp execOp
  simp only [ho, resolve, invoke, builtin, Sem.run_bind, Sem.run_pure, Result.andThen_ok, List.map_toArray, List.map_cons, List.map_nil, hs, hx, run_append_none w hu hi A B n c d hn]
  exact hK _ _ h
theorem own_cap {w : World} {base e size n c : Nat} {A : Option Addr} {xs : List Value} (h : w.ownsRow base e size (.slice A n c) n xs) : n ≤ c := by
  rcases h.2 with ⟨hv, hn⟩ | ⟨g, cap, cur, hv, _, _, hc, _⟩
  · injection hv with _ h1 h2; omega
  · injection hv with _ h1 h2; omega
/-- Append of a row, or of nothing. -/
theorem wpList_appAny {P : Program} {w : World} {t e size bytes : Nat} (hE : ElemT P t e size bytes) {ops : Array Oper} {rest : List Oper} {o : Oper} {a : Act} {Q : Exit → Act → World → Prop} (hgd : o.guard = none) (s x : Operand)
    (ho : o.op = .call { callee := .builtin .append, args := #[s, x], argTypes := #[t, t] }) {base : Nat} {A B : Option Addr} {n c d : Nat} {xs : List Value} (hs : a.eval s = .slice A n c) (hown : w.ownsRow base e size (.slice A n c) n xs)
    (m : Nat) (news : List Value) (hx : a.eval x = .slice B m d) (hl : news.length = m * size) (hnews : Row w 0 B news) (h1 : ∀ u ∈ news, u.oneCell' = true)
    (hbytes : (n + m) * bytes ≤ 140737488355328) (h63 : n + m ≤ maxLen) (hbase : base ≤ w.heap.size)
    (h : ∀ A' cap w', w'.ownsRow base e size (.slice A' (n + m) cap) (n + m) (xs ++ news) → w.grownBy w' (Value.slice A n c).ownBlock → (∀ q, (Value.slice A' (n + m) cap).ownBlock = some q → (Value.slice A n c).ownBlock = some q ∨ q = w.heap.size) → wpList P ops Q rest (a.put o.dst (.slice A' (n + m) cap)) w') : wpList P ops Q (o :: rest) a w := by
  rcases Nat.eq_zero_or_pos m with hm | hm
  · subst hm
    have hn : news = [] := List.eq_nil_of_length_eq_zero (by simpa using hl)
    subst hn
    refine wpList_app0 hE hgd s x ho hs hx (own_cap hown) ?_
    have := h A c w (by simpa using hown) ⟨rfl, rfl, rfl, Nat.le_refl _, fun _ _ _ => rfl⟩ (fun q hq => .inl (by cases A with
      | none => simp [Value.ownBlock] at hq
      | some a => simpa [Value.ownBlock] using hq))
    simpa using this
  · obtain ⟨i, z, hu, hi, hz, hsz, hby, hzs, hpos⟩ := hE.ex
    obtain ⟨ad, rfl, _, hc⟩ := hnews (by rw [hl]; exact Nat.mul_pos hm hpos)
    refine wpList_app hE hgd s x ho hs hown ad m d news hx hl hc h1 hbytes h63 hbase hm fun g cap w' k1 k2 k3 => h _ cap w' k1 k2 fun q hq => ?_
    have : q = g := by simpa [Value.ownBlock] using hq.symm
    subst this
    exact k3
end Go.Proofs.Ytdapcahphaldjaa
namespace Go.Proofs.Ytdapcahphaldjaa.Net
open Go.RowKit Go.Proofs.Ytdapcahphaldjaa.Cents
set_option linter.unusedVariables false
set_option linter.unusedSimpArgs false

/-! ### the plain law -/
/-- What the postings of an account are together. -/
def amts (k : Int) : List Post → Int
  | [] => 0
  | p :: l => (if p.acc = k then p.amt else 0) + amts k l
theorem amts_append (k : Int) (l m : List Post) : amts k (l ++ m) = amts k l + amts k m := by
  induction l with
  | nil => simp [amts]
  | cons p l ih => simp only [List.cons_append, amts, ih]; omega
theorem amts_layP (k ct acc amt : Int) : amts k (layP ct acc amt) = if acc = k then amt else 0 := by
  unfold layP
  by_cases c : amt = 0
  · rw [if_pos c]; subst c; simp [amts]
  · rw [if_neg c]; simp [amts]
theorem amts_chg (k ct fb fr tb tr : Int) : amts k (chg ct fb fr tb tr) = (if (0 : Int) = k then tb - fb else 0) + (if (1 : Int) = k then liab fb fr - liab tb tr else 0) + (if (2 : Int) = k then asset tb tr - asset fb fr else 0) + (if (3 : Int) = k then fr - tr else 0) := by
  unfold chg
  rw [amts_append, amts_append, amts_append, amts_layP, amts_layP, amts_layP, amts_layP]
def W64 (n : Int) : Int := IntKind.i64.wrap n
theorem W64_in {n : Int} (h : I64 n) : W64 n = n := IntWalk.i64_in _ (by have := h.1; have := h.2; omega)
theorem W64_add (a b : Int) : IntKind.i64.wrap (W64 a + b) = W64 (a + b) := by
  unfold W64
  rw [IntKind.wrap_i64, IntKind.wrap_i64, IntKind.wrap_i64]
  omega
theorem cells_one' (ps : List Post) : ∀ u ∈ cells ps, u.oneCell' = true := by
  intro u hu
  simp only [cells, List.mem_flatMap, Post.cells] at hu
  obtain ⟨p, _, h⟩ := hu
  simp at h
  rcases h with rfl | rfl | rfl <;> rfl

/-- In the loop of NetMoves: the four cells, the row that is ranged over. -/
structure MovW (w0 : World) (G : Nat) (i0 i1 i2 i3 : Int) (all : List Post) (A : Option Addr) (j : Nat) (v0 v1 v2 v3 : Int) (wr : World) : Prop where
  box : Blk wr G 54 #[.int .i64 v0, .int .i64 v1, .int .i64 v2, .int .i64 v3]
  row : RowF wr (fun k => k ≠ G) A (cells all)
  be : Below w0.heap.size w0 wr
  gt : w0.heap.size ≤ G
  e0 : v0 = W64 (i0 + amts 0 (all.take j))
  e1 : v1 = W64 (i1 + amts 1 (all.take j))
  e2 : v2 = W64 (i2 + amts 2 (all.take j))
  e3 : v3 = W64 (i3 + amts 3 (all.take j))
theorem RowF.of_own {w : World} {F : Nat → Prop} {base e size n c : Nat} {A : Option Addr} {xs : List Value} (h : w.ownsRow base e size (.slice A n c) n xs) (hF : ∀ q, (Value.slice A n c).ownBlock = some q → F q) : RowF w F A xs := fun hl => by
  have hpos : 0 < n := by
    rcases Nat.eq_zero_or_pos n with h0 | h0
    · have := h.1; subst h0; simp at this; subst this; simp at hl
    · exact h0
  obtain ⟨g, cap, hv, hb, hlt⟩ := h.form hpos
  have hA : A = some ⟨g, 0, none⟩ := by injection hv
  subst hA
  exact ⟨_, rfl, hF g rfl, h.cells (g := g) rfl⟩
theorem amts_one (k : Int) (p : Post) : amts k [p] = if p.acc = k then p.amt else 0 := by simp [amts]
theorem amts_hit {i v k : Int} {all : List Post} {j : Nat} (hlt : j < all.length) {p0 p1 p2 : Int} (hp : (⟨p0, p1, p2⟩ : Post) = all[j]) (hk : p0 = k) (h : v = W64 (i + amts k (all.take j))) : wrap64 (v + p2) = W64 (i + amts k (all.take (j + 1))) := by
  rw [← IntWalk.i64_left]
  rw [take_end hlt, amts_append, amts_one, ← hp, if_pos hk, h, W64_add, Int.add_assoc]
theorem amts_miss {i v k : Int} {all : List Post} {j : Nat} (hlt : j < all.length) {p0 p1 p2 : Int} (hp : (⟨p0, p1, p2⟩ : Post) = all[j]) (hk : ¬ p0 = k) (h : v = W64 (i + amts k (all.take j))) : v = W64 (i + amts k (all.take (j + 1))) := by
  rw [take_end hlt, amts_append, amts_one, ← hp, if_neg hk, Int.add_zero]; exact h
theorem RowF.post {w : World} {F : Nat → Prop} {A : Option Addr} {xs : List Post} (hr : RowF w F A (cells xs)) {j : Nat} (h : j < xs.length) :
    ∃ ad, A = some ad ∧ F (ad.add (j * 3)).block ∧ w.cell? (ad.add (j * 3)) = some (.int .i64 xs[j].acc) ∧ w.cell? ⟨(ad.add (j * 3)).block, (ad.add (j * 3)).off + 1, none⟩ = some (.int .i64 xs[j].ct) ∧ w.cell? ⟨(ad.add (j * 3)).block, (ad.add (j * 3)).off + 2, none⟩ = some (.int .i64 xs[j].amt) := by
  obtain ⟨ad, e, _, h0, h1, h2⟩ := Row.post hr.row h
  obtain ⟨ad', e', hF, _⟩ := hr (by rw [cells_len]; omega)
  rw [e] at e'
  obtain rfl : ad = ad' := by simpa using e'
  exact ⟨ad, e, by rw [block_add]; exact hF, h0, h1, h2⟩
theorem MovW.hit0 {w0 : World} {G : Nat} {i0 i1 i2 i3 : Int} {all : List Post} {A : Option Addr} {j : Nat} {v0 v1 v2 v3 : Int} {wr : World} (h : MovW w0 G i0 i1 i2 i3 all A j v0 v1 v2 v3 wr) (hlt : j < all.length) {p1 p2 : Int} (hp : (⟨0, p1, p2⟩ : Post) = all[j]) (o : Obj) :
    MovW w0 G i0 i1 i2 i3 all A (j + 1) (wrap64 (v0 + p2)) v1 v2 v3 ((wr.setCell ⟨G, 0, none⟩ (.int .i64 (wrap64 (v0 + p2)))).alloc o).drew where
  box := Blk.drew ((h.box.set_ 0 _).alloc _)
  row := RowF.alloc (h.row.setCell (fun hf => hf rfl) _) _
  be := ((h.be.setCell (by simpa using h.gt) _).alloc (by simpa using h.be.size) _).drew
  gt := h.gt
  e0 := amts_hit hlt hp rfl h.e0
  e1 := amts_miss hlt hp (by decide) h.e1
  e2 := amts_miss hlt hp (by decide) h.e2
  e3 := amts_miss hlt hp (by decide) h.e3
theorem MovW.hit1 {w0 : World} {G : Nat} {i0 i1 i2 i3 : Int} {all : List Post} {A : Option Addr} {j : Nat} {v0 v1 v2 v3 : Int} {wr : World} (h : MovW w0 G i0 i1 i2 i3 all A j v0 v1 v2 v3 wr) (hlt : j < all.length) {p1 p2 : Int} (hp : (⟨1, p1, p2⟩ : Post) = all[j]) (o : Obj) :
    MovW w0 G i0 i1 i2 i3 all A (j + 1) v0 (wrap64 (v1 + p2)) v2 v3 ((wr.setCell ⟨G, 1, none⟩ (.int .i64 (wrap64 (v1 + p2)))).alloc o).drew where
  box := Blk.drew ((h.box.set_ 1 _).alloc _)
  row := RowF.alloc (h.row.setCell (fun hf => hf rfl) _) _
  be := ((h.be.setCell (by simpa using h.gt) _).alloc (by simpa using h.be.size) _).drew
  gt := h.gt
  e0 := amts_miss hlt hp (by decide) h.e0
  e1 := amts_hit hlt hp rfl h.e1
  e2 := amts_miss hlt hp (by decide) h.e2
  e3 := amts_miss hlt hp (by decide) h.e3
theorem MovW.hit2 {w0 : World} {G : Nat} {i0 i1 i2 i3 : Int} {all : List Post} {A : Option Addr} {j : Nat} {v0 v1 v2 v3 : Int} {wr : World} (h : MovW w0 G i0 i1 i2 i3 all A j v0 v1 v2 v3 wr) (hlt : j < all.length) {p1 p2 : Int} (hp : (⟨2, p1, p2⟩ : Post) = all[j]) (o : Obj) :
    MovW w0 G i0 i1 i2 i3 all A (j + 1) v0 v1 (wrap64 (v2 + p2)) v3 ((wr.setCell ⟨G, 2, none⟩ (.int .i64 (wrap64 (v2 + p2)))).alloc o).drew where
  box := Blk.drew ((h.box.set_ 2 _).alloc _)
  row := RowF.alloc (h.row.setCell (fun hf => hf rfl) _) _
  be := ((h.be.setCell (by simpa using h.gt) _).alloc (by simpa using h.be.size) _).drew
  gt := h.gt
  e0 := amts_miss hlt hp (by decide) h.e0
  e1 := amts_miss hlt hp (by decide) h.e1
  e2 := amts_hit hlt hp rfl h.e2
  e3 := amts_miss hlt hp (by decide) h.e3
theorem MovW.hit3 {w0 : World} {G : Nat} {i0 i1 i2 i3 : Int} {all : List Post} {A : Option Addr} {j : Nat} {v0 v1 v2 v3 : Int} {wr : World} (h : MovW w0 G i0 i1 i2 i3 all A j v0 v1 v2 v3 wr) (hlt : j < all.length) {p1 p2 : Int} (hp : (⟨3, p1, p2⟩ : Post) = all[j]) (o : Obj) :
    MovW w0 G i0 i1 i2 i3 all A (j + 1) v0 v1 v2 (wrap64 (v3 + p2)) ((wr.setCell ⟨G, 3, none⟩ (.int .i64 (wrap64 (v3 + p2)))).alloc o).drew where
  box := Blk.drew ((h.box.set_ 3 _).alloc _)
  row := RowF.alloc (h.row.setCell (fun hf => hf rfl) _) _
  be := ((h.be.setCell (by simpa using h.gt) _).alloc (by simpa using h.be.size) _).drew
  gt := h.gt
  e0 := amts_miss hlt hp (by decide) h.e0
  e1 := amts_miss hlt hp (by decide) h.e1
  e2 := amts_miss hlt hp (by decide) h.e2
  e3 := amts_hit hlt hp rfl h.e3

set_option maxHeartbeats 2000000 in
set_option maxRecDepth 100000 in
theorem moves_walk (b r m q : Int) (w : World) (i1 : I64 b) (i2 : I64 r) (i3 : I64 m) (i4 : I64 q) :
    Calls Try.prog 6 #[.int .i64 b, .int .i64 r, .int .i64 m, .int .i64 q] w fun e w' => e = .returned (.bool true) ∧ Below w.heap.size w w' := by
  have I1 := Lib.hid i1
  have I2 := Lib.hid i2
  have I3 := Lib.hid i3
  have I4 := Lib.hid i4
  obtain ⟨ps, hp⟩ : ∃ x, chgP 3 b r m 0 = x := ⟨_, rfl⟩
  obtain ⟨n, hn⟩ : ∃ x, ps.length = x := ⟨_, rfl⟩
  obtain ⟨er, he⟩ : ∃ x, chgE 3 b r m 0 = x := ⟨_, rfl⟩
  have ln : n ≤ 4 := by rw [← hn, ← hp]; exact chgP_len _ _ _ _ _
  have HP := Lib.hid hp
  have HN := Lib.hid hn
  have HE := Lib.hid he
  clear i1 i2 i3 i4 hp hn he
  go_enter Try.func6, Try.ntmps6
  go_wp2_with fail
  refine (awake17 _).mono ?_
  rintro e w1 ⟨rfl, hb1⟩
  have B1 := Lib.hid hb1
  clear hb1
  go_wp2_with fail
  refine (bill_any 3 _ b r m I1.out I2.out I3.out).mono ?_
  rintro e w2 ⟨A2, c2, rfl, o2, hb2⟩
  rw [HP.out] at o2
  rw [HP.out, HE.out, HN.out]
  have O2 := Lib.hid o2
  have B2 := Lib.hid (B1.out.trans (hb2.mono B1.out.size))
  have Z12 := Lib.hid hb2.size
  clear o2 hb2
  go_wp2_with fail
  by_cases ho : er = 0
  · subst ho
    obtain ⟨_, _, p1, p2, u1, u2, p3, p4⟩ := chgE_zero HE.out
    clear u2 p4
    refine (add_yes _ _ _ I1.out I3.out u1).mono ?_
    rintro e x1 ⟨rfl, rfl⟩
    obtain ⟨b', hb'⟩ : ∃ x, b + m = x := ⟨_, rfl⟩
    rw [hb'] at u1 p3
    rw [hb']
    have U1 := Lib.hid u1
    have EB := Lib.hid hb'
    clear u1 hb'
    go_wp2_with fail
    obtain ⟨qs, hq⟩ : ∃ x, chgP 3 b' r 0 q = x := ⟨_, rfl⟩
    obtain ⟨k, hk⟩ : ∃ x, qs.length = x := ⟨_, rfl⟩
    obtain ⟨er2, he2⟩ : ∃ x, chgE 3 b' r 0 q = x := ⟨_, rfl⟩
    have lk : k ≤ 4 := by rw [← hk, ← hq]; exact chgP_len _ _ _ _ _
    have HQ := Lib.hid hq
    have HK := Lib.hid hk
    have HE2 := Lib.hid he2
    clear hq hk he2
    refine (earn_is 3 b' r q _ qs k er2 U1.out I2.out I4.out HQ.out HE2.out HK.out).mono ?_
    rintro e w3 ⟨A3, c3, rfl, r3, hb3⟩
    have R3 := Lib.hid r3
    have B3 := Lib.hid (B2.out.trans (hb3.mono B2.out.size))
    have Z23 := Lib.hid hb3.size
    have O3 := Lib.hid (show w3.ownsRow w1.heap.size 56 3 (.slice A2 ps.length c2) ps.length (cells ps) from own_fr O2.out (Fr.later (S := fun _ => False) hb3) (by simp))
    clear r3 hb3 O2
    go_wp2_with fail
    by_cases ho2 : er2 = 0
    · subst ho2
      obtain ⟨_, _, _, _, _, u2, _, p4⟩ := chgE_zero HE2.out
      refine (add_yes _ _ _ I2.out I4.out u2).mono ?_
      rintro e x1 ⟨rfl, rfl⟩
      obtain ⟨r', hr'⟩ : ∃ x, r + q = x := ⟨_, rfl⟩
      rw [hr'] at u2 p4
      rw [hr']
      have U2 := Lib.hid u2
      have ER := Lib.hid hr'
      clear u2 hr'
      go_wp2_with fail
      obtain ⟨l1, hl1⟩ : ∃ x, liab b r = x := ⟨_, rfl⟩
      obtain ⟨s1, hs1⟩ : ∃ x, asset b r = x := ⟨_, rfl⟩
      obtain ⟨l2, hl2⟩ : ∃ x, liab b' r' = x := ⟨_, rfl⟩
      obtain ⟨s2, hs2⟩ : ∃ x, asset b' r' = x := ⟨_, rfl⟩
      have k1 := I1.out.2
      have k2 := I2.out.2
      have k3 := U1.out.2
      have k4 := U2.out.2
      obtain ⟨r10, r11⟩ : 0 ≤ l1 ∧ l1 ≤ b := by rw [← hl1]; exact liab_in p1 p2
      obtain ⟨r20, r21⟩ : 0 ≤ s1 ∧ s1 ≤ r := by rw [← hs1]; exact asset_in p1 p2
      obtain ⟨r30, r31⟩ : 0 ≤ l2 ∧ l2 ≤ b' := by rw [← hl2]; exact liab_in p3 p4
      obtain ⟨r40, r41⟩ : 0 ≤ s2 ∧ s2 ≤ r' := by rw [← hs2]; exact asset_in p3 p4
      have L1 := Lib.hid hl1
      have S1 := Lib.hid hs1
      have L2 := Lib.hid hl2
      have S2 := Lib.hid hs2
      clear hl1 hs1 hl2 hs2
      refine (sides_any b r _ p1 p2 k1 k2 l1 s1 L1.out S1.out).mono ?_
      rintro e x1 ⟨rfl, rfl⟩
      go_wp2_with fail
      refine (sides_any b' r' _ p3 p4 k3 k4 l2 s2 L2.out S2.out).mono ?_
      rintro e x1 ⟨rfl, rfl⟩
      rw [← HN.out]
      have HLN := Lib.hid (show ps.length ≤ 4 by rw [HN.out]; exact ln)
      have HLK := Lib.hid lk
      have bx : Blk (w3.alloc (.cells #[.int .i64 0, .int .i64 (-l1), .int .i64 s1, .int .i64 (-r)] 54)) w3.heap.size 54 #[.int .i64 0, .int .i64 (-l1), .int .i64 s1, .int .i64 (-r)] := Blk.new _ _ _
      have BX := Lib.hid bx
      have hb1 : (ps.length + k) * 24 ≤ 140737488355328 := by have := HLN.out; omega
      have hb2 : ps.length + k ≤ maxLen := by have := HLN.out; unfold maxLen; omega
      have hlq : (cells qs).length = k * 3 := by rw [cells_len, HK.out]
      have hz1 : w1.heap.size ≤ w3.heap.size + 1 := by have := Z12.out; have := Z23.out; omega
      clear bx
      obtain ⟨N, hNN⟩ : ∃ x, ps.length + k = x := ⟨_, rfl⟩
      have HNN := Lib.hid hNN
      have hN8 : N ≤ 8 := by have := HLN.out; omega
      rw [hNN] at hb1 hb2
      obtain ⟨all, hall⟩ : ∃ x, ps ++ qs = x := ⟨_, rfl⟩
      have hlen : all.length = N := by rw [← hall, List.length_append, HK.out]; exact hNN
      have hmem : ∀ x ∈ all, 0 ≤ x.acc ∧ x.acc ≤ 3 := by
        intro x hx
        rw [← hall] at hx
        rcases List.mem_append.1 hx with hx | hx
        · rw [← HP.out] at hx
          have := chgP_mem I1.out I2.out hx
          exact ⟨this.2.2.1, this.2.2.2.1⟩
        · rw [← HQ.out] at hx
          have := chgP_mem U1.out I2.out hx
          exact ⟨this.2.2.1, this.2.2.2.1⟩
      have f0 : amts 0 all = m := by
        rw [← hall, amts_append, ← HP.out, ← HQ.out]
        unfold chgP
        rw [if_pos HE.out, if_pos HE2.out, amts_chg, amts_chg, EB.out, ER.out]
        simp
        have := EB.out
        omega
      have f1 : -l1 + amts 1 all = -l2 := by
        rw [← hall, amts_append, ← HP.out, ← HQ.out]
        unfold chgP
        rw [if_pos HE.out, if_pos HE2.out, amts_chg, amts_chg, EB.out, ER.out]
        have c1 := L1.out
        have c2 := L2.out
        simp
        omega
      have f2 : s1 + amts 2 all = s2 := by
        rw [← hall, amts_append, ← HP.out, ← HQ.out]
        unfold chgP
        rw [if_pos HE.out, if_pos HE2.out, amts_chg, amts_chg, EB.out, ER.out]
        have c1 := S1.out
        have c2 := S2.out
        simp
        omega
      have f3 : -r + amts 3 all = -r' := by
        rw [← hall, amts_append, ← HP.out, ← HQ.out]
        unfold chgP
        rw [if_pos HE.out, if_pos HE2.out, amts_chg, amts_chg, EB.out, ER.out]
        simp
        omega
      have FF := Lib.hid (And.intro f0 (And.intro f1 (And.intro f2 f3)))
      have HALL := Lib.hid hall
      have HLEN := Lib.hid hlen
      have HMEM := Lib.hid hmem
      clear hNN hall hlen hmem f0 f1 f2 f3
      go_wp2_with (at_builtin; refine wpList_appAny E_post rfl (.tmp 90) (.tmp 91) rfl (base := w1.heap.size) rfl (O3.out.alloc _) k (cells qs) rfl hlq (Row.alloc (R3.out.weak (Nat.zero_le _)) _) (cells_one' qs) (by rw [HNN.out]; exact hb1) (by rw [HNN.out]; exact hb2) (by simp; omega) ?_; intro A5 c5 w5 hown5 hg5 hat5; rw [HNN.out] at hown5; rw [HNN.out] at hat5; rw [HNN.out]; have HO5 := Lib.hid hown5; have HG5 := Lib.hid hg5; have HA5 := Lib.hid hat5; clear hown5 hg5 hat5)
      go_loopw [94] (fun i wr => ∃ (j : Nat) (v0 v1 v2 v3 : Int), i = .int .i64 (j : Int) ∧ j ≤ N ∧ MovW w w3.heap.size 0 (-l1) s1 (-r) all A5 j v0 v1 v2 v3 wr) (fun i _ => N - (intOf i).toNat)
      case atStart =>
        have hlt : ∀ q, (Value.slice A2 ps.length c2).ownBlock = some q → q < w3.heap.size := fun q hq => (O3.out.lt q hq).2
        refine ⟨0, 0, -l1, s1, -r, rfl, Nat.zero_le _, BX.out.grown HG5.out (fun h => Nat.lt_irrefl _ (hlt _ h.symm)), ?_, ?_, B3.out.size, ?_, ?_, ?_, ?_⟩
        · have h5 := HO5.out
          rw [← cells_append, HALL.out] at h5
          refine RowF.of_own h5 fun q hq => ?_
          rcases HA5.out q hq with h | h
          · exact Nat.ne_of_lt (hlt q h)
          · rw [h]; simp
        · have y1 : Below w.heap.size w (w3.alloc (.cells #[.int .i64 0, .int .i64 (-l1), .int .i64 s1, .int .i64 (-r)] 54)) := B3.out.alloc B3.out.size _
          exact y1.trans ((grown_below HG5.out (O3.out.alloc _) (by simp; omega)).mono B1.out.size)
        · rw [List.take_zero]; simp only [amts, Int.add_zero]; rw [W64_in (by decide)]
        · rw [List.take_zero]; simp only [amts, Int.add_zero]; rw [W64_in ⟨by omega, by omega⟩]
        · rw [List.take_zero]; simp only [amts, Int.add_zero]; rw [W64_in ⟨by omega, by omega⟩]
        · rw [List.take_zero]; simp only [amts, Int.add_zero]; rw [W64_in ⟨by omega, by omega⟩]
      case round =>
        obtain ⟨j, v0, v1, v2, v3, rfl, hj, ht⟩ := hrel
        have g0 : wr.cell? ⟨w3.heap.size, 0, none⟩ = some (.int .i64 v0) := ht.box.cell 0
        have g1 : wr.cell? ⟨w3.heap.size, 1, none⟩ = some (.int .i64 v1) := ht.box.cell 1
        have g2 : wr.cell? ⟨w3.heap.size, 2, none⟩ = some (.int .i64 v2) := ht.box.cell 2
        have g3 : wr.cell? ⟨w3.heap.size, 3, none⟩ = some (.int .i64 v3) := ht.box.cell 3
        have z0 := ht.box.frozen 0
        have z1 := ht.box.frozen 1
        have z2 := ht.box.frozen 2
        have z3 := ht.box.frozen 3
        have hsz := ht.box.lt
        have HT := Lib.hid ht
        clear ht
        by_cases hlt : j < N
        · obtain ⟨ax, rfl, hax, x0, x1, x2⟩ := RowF.post HT.out.row (j := j) (by rw [HLEN.out]; exact hlt)
          obtain ⟨px, hpx⟩ : ∃ p, p = all[j]'(by rw [HLEN.out]; exact hlt) := ⟨_, rfl⟩
          have hacc : 0 ≤ px.acc ∧ px.acc ≤ 3 := HMEM.out px (by rw [hpx]; exact List.getElem_mem _)
          rw [← hpx] at x0 x1 x2
          rcases px with ⟨p0, p1, p2⟩
          dsimp only at x0 x1 x2 hacc
          have HPX := Lib.hid hpx
          clear hpx
          have h4 : p0 = 0 ∨ p0 = 1 ∨ p0 = 2 ∨ p0 = 3 := by omega
          clear hacc
          rcases h4 with rfl | rfl | rfl | rfl
          · go_wp2_with fail
            go_region_with fail
            all_goals
              go_wp2_with fail
              go_roundw
              case rel => exact ⟨j + 1, _, _, _, _, by go_num, by omega, HT.out.hit0 (by rw [HLEN.out]; exact hlt) HPX.out _⟩
              case measure => simp only [intOf]; omega
          · go_wp2_with fail
            go_region_with fail
            all_goals
              go_wp2_with fail
              go_roundw
              case rel => exact ⟨j + 1, _, _, _, _, by go_num, by omega, HT.out.hit1 (by rw [HLEN.out]; exact hlt) HPX.out _⟩
              case measure => simp only [intOf]; omega
          · go_wp2_with fail
            go_region_with fail
            all_goals
              go_wp2_with fail
              go_roundw
              case rel => exact ⟨j + 1, _, _, _, _, by go_num, by omega, HT.out.hit2 (by rw [HLEN.out]; exact hlt) HPX.out _⟩
              case measure => simp only [intOf]; omega
          · go_wp2_with fail
            go_region_with fail
            all_goals
              go_wp2_with fail
              go_roundw
              case rel => exact ⟨j + 1, _, _, _, _, by go_num, by omega, HT.out.hit3 (by rw [HLEN.out]; exact hlt) HPX.out _⟩
              case measure => simp only [intOf]; omega
        · obtain rfl : j = N := by omega
          have hf := HT.out
          obtain ⟨f0, f1, f2, f3⟩ := FF.out
          have ht : all.take j = all := List.take_of_length_le (by rw [HLEN.out]; exact Nat.le_refl _)
          obtain rfl : v0 = m := by rw [hf.e0, ht, f0, Int.zero_add]; exact W64_in I3.out
          obtain rfl : v1 = -l2 := by rw [hf.e1, ht, f1]; exact W64_in ⟨by omega, by omega⟩
          obtain rfl : v2 = s2 := by rw [hf.e2, ht, f2]; exact W64_in ⟨by omega, by omega⟩
          obtain rfl : v3 = -r' := by rw [hf.e3, ht, f3]; exact W64_in ⟨by omega, by omega⟩
          clear hf f0 f1 f2 f3 ht
          have heq := eq_arr4 wr v0 (-l2) v2 (-r') v0 (-l2) v2 (-r')
          simp only [beq_self_eq_true, Bool.and_self] at heq
          go_wp2_with fail
          go_ret
          exact ⟨rfl, HT.out.be⟩
    · have hno : (er2 == 0) = false := by simpa using ho2
      have hne : (er2 != 0) = true := by simpa using ho2
      obtain ⟨x, y, hxy⟩ : ∃ x y, addV r q = .tuple #[.int .i64 x, .int .i64 y] := by unfold addV; split <;> exact ⟨_, _, rfl⟩
      have HXY := Lib.hid hxy
      clear hxy ho2
      refine (add_any _ _ _ I2.out I4.out).mono ?_
      rintro e x1 ⟨hx1, rfl⟩
      rw [HXY.out] at hx1
      subst hx1
      go_wp2_with fail
      go_ret
      exact ⟨rfl, B3.out⟩
  · have hno : (er == 0) = false := by simpa using ho
    have hne : (er != 0) = true := by simpa using ho
    obtain ⟨x, y, hxy⟩ : ∃ x y, addV b m = .tuple #[.int .i64 x, .int .i64 y] := by unfold addV; split <;> exact ⟨_, _, rfl⟩
    have HXY := Lib.hid hxy
    clear hxy ho
    refine (add_any _ _ _ I1.out I3.out).mono ?_
    rintro e x1 ⟨hx1, rfl⟩
    rw [HXY.out] at hx1
    subst hx1
    go_wp2_with fail
    go_ret
    exact ⟨rfl, B2.out⟩
end Go.Proofs.Ytdapcahphaldjaa.Net
