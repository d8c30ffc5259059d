/- The walk of (*Ledger).Post. -/
import Derived.Test.YtmijcgcppankcaaAcctK
import Derived.Deep.DeepCutAuto
namespace Go.Proofs.Ytmijcgcppankcaa.AC
open Go.RowKit Go.Proofs.Ytmijcgcppankcaa.Cents Go.Proofs.Ytmijcgcppankcaa.MV Go.Proofs.Ytmijcgcppankcaa.Net Go.Proofs.Ytmijcgcppankcaa.CO
open Go.Maps (Keyed)
set_option linter.unusedVariables false
set_option linter.unusedSimpArgs false

/-- Do the rows fit? -/
def fitAll (per : Nat) (es : List Ent) (q : Nat) (ps : List Post) : Prop := ∀ a c, I64 a → I64 c → pam a c ps ≠ [] → okRow per q (newRow (rowL es per a c) q (pam a c ps))
open Classical in
noncomputable def postE (per : Nat) (opn : Int) (xs : List EV) (x : Int) (ps : List Post) : Int :=
  if chkE per opn xs.length x ps = 0 then (if fitAll per (ents xs) x.toNat ps then 0 else 3) else chkE per opn xs.length x ps
theorem chk_ok {per n : Nat} {opn x : Int} {ps : List Post} (h : chkE per opn n x ps = 0) : ∃ q : Nat, x = (q : Int) ∧ q < per ∧ 1 ≤ ps.length ∧ ps.length ≤ 32 ∧ noAny ps = false ∧ opn ≤ x ∧ evenP ps ∧ n ≠ 5000 := by
  unfold chkE at h
  by_cases h1 : ¬ hasP per x ∨ ps.length = 0 ∨ 32 < ps.length ∨ noAny ps = true
  · rw [if_pos h1] at h; omega
  · rw [if_neg h1] at h
    by_cases h2 : x < opn
    · rw [if_pos h2] at h; omega
    · rw [if_neg h2] at h
      by_cases h3 : ¬ evenP ps
      · rw [if_pos h3] at h; omega
      · rw [if_neg h3] at h
        by_cases h4 : n = 5000
        · rw [if_pos h4] at h; omega
        · have h5 : hasP per x := Classical.byContradiction fun c => h1 (.inl c)
          have h6 : ¬ ps.length = 0 := fun c => h1 (.inr (.inl c))
          have h7 : ¬ 32 < ps.length := fun c => h1 (.inr (.inr (.inl c)))
          have h8 : ¬ noAny ps = true := fun c => h1 (.inr (.inr (.inr c)))
          exact ⟨x.toNat, by unfold hasP at h5; omega, by unfold hasP at h5; omega, by omega, by omega, by simpa using h8, by omega, Classical.byContradiction h3, h4⟩
theorem noAny_all {ps : List Post} (h : noAny ps = false) : ∀ p ∈ ps, mayP p.acc p.ct := fun p hp => by
  unfold noAny at h
  rw [List.any_eq_false] at h
  simpa using h p hp
/-- What Post leaves. -/
def PostRet (b0 L per : Nat) (opn : Int) (xs : List EV) (E : Option Addr) (c M : Nat) (f : KF) (x : Int) (ps : List Post) (w : World) (e : Ending) (w' : World) : Prop :=
  (postE per opn xs x ps ≠ 0 ∧ e = .returned (.tuple #[.int .i64 0, .int .i64 (postE per opn xs x ps)]) ∧ Below w.heap.size w w') ∨
  (postE per opn xs x ps = 0 ∧ e = .returned (.tuple #[.int .i64 (xs.length : Int), .int .i64 0]) ∧ ∃ v E' c' f', LedW b0 L per opn (xs ++ [⟨⟨x.toNat, ps, false⟩, v⟩]) E' c' M f' w' ∧ Fr (LS L M E xs.length c) w w' ∧ ∀ g, (Value.slice E' (xs.length + 1) c').ownBlock = some g → (Value.slice E xs.length c).ownBlock = some g ∨ w.heap.size ≤ g)
theorem post_bad (b0 L per M ce n : Nat) (opn x : Int) (xs : List EV) (E A : Option Addr) (f : KF) (ps : List Post) (c : Nat) (w : World) (hL : LedW b0 L per opn xs E ce M f w) (hG : LedG per opn xs)
    (hr : Row w 0 A (cells ps)) (hl : ps.length ≤ 1000) (hI : ∀ p ∈ ps, Post.I p) (hE : chkE per opn xs.length x ps ≠ 0) :
    Calls Try.prog 26 #[.pointer (some ⟨L, 0, none⟩), .int .i64 x, .slice A ps.length c] w (PostRet b0 L per opn xs E ce M f x ps w) := by
  have HC := Lib.hid (check_is L per xs.length ce opn x E A _ ps c w hL.led hr hl hI (by have := hG.len; omega))
  have HP := Lib.hid (show postE per opn xs x ps = chkE per opn xs.length x ps by unfold postE; rw [if_neg hE])
  have HNE := Lib.hid hE
  generalize chkE per opn xs.length x ps = E0 at *
  generalize ps.length = m at *
  have hne : (E0 != 0) = true := by simpa using hE
  clear hL hG hr hI hE
  go_enter Try.func26, Try.ntmps26
  go_wp2_with fail
  refine HC.out.mono ?_
  rintro e w1 ⟨rfl, hb⟩
  have HB := Lib.hid hb
  clear hb
  go_wp2_with fail
  go_ret2
  refine .inl ⟨?_, ?_, HB.out⟩
  · rw [HP.out]; exact HNE.out
  · rw [HP.out]; rfl
theorem rangeV_iter {P : Program} {k : TypeId} {m r n : Nat} {f : KF} {left : Lit → Bool} {cnt : Nat} {w : World} (h : RangeV P k m r n f left cnt w) : ∃ a s e c, w.heap[r]? = some (.mapIter a s e c) := by
  obtain ⟨D, ⟨es, clock, since, seen, c0, _, _, _, _, hr, _⟩, _⟩ := h
  exact ⟨_, _, _, _, hr⟩
theorem rangeV_cells {P : Program} {k : TypeId} {m r n : Nat} {f : KF} {left : Lit → Bool} {cnt : Nat} {w : World} (h : RangeV P k m r n f left cnt w) {g : Nat} {cs : Array Value} {t : TypeId} {z : Nat × Nat} (hg : w.heap[g]? = some (.cells cs t z)) : g ≠ r := by
  rintro rfl
  obtain ⟨a, s, e, c, hr⟩ := rangeV_iter h
  rw [hr] at hg
  cases hg
theorem rangeV_map {P P' : Program} {k k' : TypeId} {m r n m' n' : Nat} {f f' : KF} {left : Lit → Bool} {cnt : Nat} {w : World} (h : RangeV P k m r n f left cnt w) (hg : MapV P' k' m' n' f' w) : m' ≠ r := by
  rintro rfl
  obtain ⟨a, s, e, c, hr⟩ := rangeV_iter h
  obtain ⟨D, ⟨es, clock, hb, _⟩, _⟩ := hg
  rw [hr] at hb
  cases hb
/-- The rows that fit, so far. -/
structure FiW (per q : Nat) (es : List Ent) (ps : List Post) (R M2 : Nat) (k2 : Nat) (f1 f2 : KF) (left : Lit → Bool) (w : World) : Prop where
  map : MapV Try.prog 74 M2 k2 f2 w
  row : ∀ kl v, f2 kl = some v → ∃ a c g, I64 a ∧ I64 c ∧ kl = plit a c ∧ pam a c ps ≠ [] ∧ v = .slice (some ⟨g, 0, none⟩) per per ∧ R ≤ g ∧ Blk w g 2 (ints (newRow (rowL es per a c) q (pam a c ps))).toArray ∧ okRow per q (newRow (rowL es per a c) q (pam a c ps))
  got : ∀ kl, WideAt.IsKeyLit kl → f1 kl ≠ none → left kl = false → f2 kl ≠ none
def GrpL (b : Nat) (f1 : KF) (ps : List Post) (left : Lit → Bool) (w : World) : Prop := ∀ kl v, f1 kl = some v → left kl = true → w.ownsRow b 2 1 v (gP ps kl).length (gP ps kl)
section
variable {per q R M2 k2 : Nat} {es : List Ent} {ps : List Post} {f1 f2 : KF} {left left' : Lit → Bool} {w w' : World}
theorem FiW.fr {S : Nat → Prop} (h : FiW per q es ps R M2 k2 f1 f2 left w) (hf : Fr S w w') (hM : ¬ S M2) (hR : ∀ g cs, R ≤ g → Blk w g 2 cs → ¬ S g) : FiW per q es ps R M2 k2 f1 f2 left w' :=
  ⟨mapV_same h.map (hf.block M2 h.map.lt hM), fun kl v hv => by
    obtain ⟨a, c, g, h1, h2, h3, h4, h5, h6, h7, h8⟩ := h.row kl v hv
    exact ⟨a, c, g, h1, h2, h3, h4, h5, h6, h7.fr hf (hR g _ h6 h7), h8⟩, h.got⟩
theorem FiW.put {a c : Int} {g : Nat} (h : FiW per q es ps R M2 k2 f1 f2 left w) (hk2 : k2 ≤ 1000) (ha : I64 a) (hc : I64 c) (hp : pam a c ps ≠ []) (hR : R ≤ g) (hb : Blk w g 2 (ints (newRow (rowL es per a c) q (pam a c ps))).toArray) (hok : okRow per q (newRow (rowL es per a c) q (pam a c ps)))
    (hl : ∀ kl, kl ≠ plit a c → left' kl = left kl) :
    ∃ w', (Instr.mapUpdate 60 (.map (some M2)) (.agg #[.int .i64 a, .int .i64 c]) (.slice (some ⟨g, 0, none⟩) per per)).run Try.prog w = .ok () w' ∧ FiW per q es ps R M2 (k2 + 1) f1 (upd f2 (plit a c) (.slice (some ⟨g, 0, none⟩) per per)) left' w' ∧ w.grownBy w' (some M2) := by
  obtain ⟨w', hrun, hm, hg⟩ := h.map.put keyed_pl Try.underlying60 (by unfold maxLen; omega) (pkey ha hc) (some ⟨g, 0, none⟩) per per
  have hne : ∀ g' cs, Blk w g' 2 cs → some g' ≠ some M2 := fun g' cs hb' e => by injection e with e; exact h.map.not_cells hb' e
  refine ⟨w', hrun, ⟨hm, fun kl v hv => ?_, fun kl hk h1 h2 => ?_⟩, hg⟩
  · by_cases e : kl = plit a c
    · subst e
      rw [upd_same] at hv
      injection hv with hv
      exact ⟨a, c, g, ha, hc, rfl, hp, hv.symm, hR, hb.grown hg (hne g _ hb), hok⟩
    · rw [upd_other f2 _ e] at hv
      obtain ⟨a', c', g', h1, h2, h3, h4, h5, h6, h7, h8⟩ := h.row kl v hv
      exact ⟨a', c', g', h1, h2, h3, h4, h5, h6, h7.grown hg (hne g' _ h7), h8⟩
  · by_cases e : kl = plit a c
    · subst e; rw [upd_same]; simp
    · rw [upd_other f2 _ e]
      exact h.got kl hk h1 (by rw [← hl kl e]; exact h2)
theorem GrpL.fr {S : Nat → Prop} {b : Nat} (h : GrpL b f1 ps left w) (hf : Fr S w w') (hl : ∀ kl, left' kl = true → left kl = true) (hS : ∀ kl v g, f1 kl = some v → left' kl = true → v.ownBlock = some g → ¬ S g) : GrpL b f1 ps left' w' := fun kl v h1 h2 =>
  own_fr (h kl v h1 (hl kl h2)) hf (fun g hg => hS kl v g h1 h2 hg)
end
theorem own_apart {w : World} {b1 b2 e1 e2 s1 s2 n1 n2 : Nat} {v1 v2 : Value} {x1 x2 : List Value} (h1 : w.ownsRow b1 e1 s1 v1 n1 x1) (h2 : w.ownsRow b2 e2 s2 v2 n2 x2) (hne : e1 ≠ e2) : ∀ g, v1.ownBlock = some g → some g ≠ v2.ownBlock := fun g h3 h4 => by
  rcases h1.2 with ⟨h5, _⟩ | ⟨g', cap', cur, rfl, hgb, hh, _⟩
  · subst h5; cases h3
  · rcases h2.2 with ⟨h6, _⟩ | ⟨g2, cap2, cur2, rfl, hgb2, hh2, _⟩
    · subst h6; cases h4
    · simp only [Value.ownBlock, Option.some.injEq] at h3 h4
      subst h3
      subst h4
      rw [hh] at hh2
      injection hh2 with hh2
      injection hh2 with _ hh2
      exact hne hh2
theorem own_blkne {w : World} {b e s n : Nat} {v : Value} {xs : List Value} (h : w.ownsRow b e s v n xs) {Q t : Nat} {cs : Array Value} (hb : Blk w Q t cs) (hte : t ≠ e) : some Q ≠ v.ownBlock := fun hv => by
  rcases h.2 with ⟨h2, _⟩ | ⟨g', cap', cur, hv', hg, hh, _⟩
  · subst h2; cases hv
  · subst hv'
    simp only [Value.ownBlock, Option.some.injEq] at hv
    subst hv
    rw [show w.heap[Q]? = _ from hb] at hh
    injection hh with hh
    injection hh with _ h3
    exact hte h3
theorem blk_ne {w : World} {g Q t t' : Nat} {cs cs' : Array Value} (h : Blk w g t cs) (h' : Blk w Q t' cs') (ht : t ≠ t') : g ≠ Q := by
  rintro rfl
  have h1 : w.heap[g]? = _ := h
  have h2 : w.heap[g]? = _ := h'
  rw [h1] at h2
  injection h2 with h2
  injection h2 with _ h3
  exact ht h3
theorem row_fr {w w' : World} {P : Program} {k : TypeId} {M n : Nat} {f : KF} {A : Option Addr} {xs : List Value} (hm : MapV P k M n f w) (h : Row w 0 A xs) (hf : Fr (fun z => z = M) w w') : Row w' 0 A xs := fun hn => by
  obtain ⟨ad, e, hb, hc⟩ := h hn
  refine ⟨ad, e, hb, fun j u hu => ?_⟩
  have h1 := hc j u hu
  have hlt := World.block_lt_of_cell? w _ h1
  have hne : (ad.add j).block ≠ M := fun e => by
    obtain ⟨D, ⟨es, clock, hh, _⟩, _⟩ := hm
    unfold World.cell? at h1
    rw [e, hh] at h1
    simp at h1
  have h2 := hf.block (ad.add j).block hlt hne
  unfold World.cell? at h1 ⊢
  rw [h2]
  exact h1
theorem led_post {b0 L per M ce m q k3 g2 cap2 : Nat} {opn : Int} {xs : List EV} {E : Option Addr} {f f2 f3 : KF} {ps : List Post} {v : Value} {ws wu w20 w21 : World} (hL : LedW b0 L per opn xs E ce M f ws) (hm : xs.length = m)
    (hall : ∀ a c, I64 a → I64 c → pam a c ps ≠ [] → ∃ g, f2 (plit a c) = some (.slice (some ⟨g, 0, none⟩) per per) ∧ Blk ws g 2 (ints (newRow (rowL (ents xs) per a c) q (pam a c ps))).toArray ∧ okRow per q (newRow (rowL (ents xs) per a c) q (pam a c ps)))
    (hkey : ∀ kl v, f2 kl = some v → ∃ a c, I64 a ∧ I64 c ∧ kl = plit a c ∧ pam a c ps ≠ [])
    (hf3 : ∀ kl, WideAt.IsKeyLit kl → (f2 kl ≠ none → f3 kl = f2 kl) ∧ (f2 kl = none → f3 kl = f kl)) (hf3n : ∀ kl, f2 kl = none → ∀ v, f3 kl = some v → f kl = some v)
    (hm3 : MapV Try.prog 74 M k3 f3 wu) (hk3 : k3 ≤ 40 * (m + 1)) (hfr : Fr (fun z => z = M) ws wu) (hno : ∀ p ∈ ps, mayP p.acc p.ct) (hq : q < per) (hb20 : Below wu.heap.size wu w20)
    (hv : w20.ownsRow wu.heap.size 48 3 v ps.length (cells ps)) (hown21 : w21.ownsRow b0 77 3 (.slice (some ⟨g2, 0, none⟩) (m + 1) cap2) (m + 1) (xs.flatMap evc ++ [.int .i64 (q : Int), v, .bool false]))
    (hg21 : (w20.alloc (.cells #[.int .i64 (q : Int), v, .bool false] 77)).grownBy w21 (Value.slice E m ce).ownBlock) (hbu : b0 ≤ wu.heap.size) :
    LedW b0 L per opn (xs ++ [⟨⟨q, ps, false⟩, v⟩]) (some ⟨g2, 0, none⟩) cap2 M f3 (w21.setCell ⟨L, 2, none⟩ (.slice (some ⟨g2, 0, none⟩) (m + 1) cap2)) := by
  have own0 := hL.own
  rw [hm] at own0
  have led0 := hL.led
  rw [hm] at led0
  have hLM : ¬ L = M := fun e => hL.map.not_cells led0 e
  have ledu := led0.fr hfr hLM
  have led2 := ledu.below hb20 ledu.lt
  have ownu := own_fr own0 hfr (fun k hk e => by
    subst e
    obtain ⟨cs, t2, hh⟩ := own_cells own0 k hk
    exact hL.map.not_cells hh rfl)
  have own2 := own_below ownu hb20
  have own2a := own2.alloc (.cells #[.int .i64 (q : Int), v, .bool false] 77)
  have led2a := led2.alloc (.cells #[.int .i64 (q : Int), v, .bool false] 77)
  have led21 := led2a.grown hg21 (own_blkne own2a led2a (by decide))
  have hm21 := ((hm3.later hb20).alloc (.cells #[.int .i64 (q : Int), v, .bool false] 77)).kept hg21 (mapV_ne ((hm3.later hb20).alloc _) own2a)
  have blk : ∀ g (cs : Array Value), Blk ws g 2 cs → Blk (w21.setCell ⟨L, 2, none⟩ (.slice (some ⟨g2, 0, none⟩) (m + 1) cap2)) g 2 cs := fun g cs h => by
    have h1 := h.fr hfr (fun e => hL.map.not_cells h e)
    have h2 := (h1.below hb20 h1.lt).alloc (.cells #[.int .i64 (q : Int), v, .bool false] 77)
    have h3 := h2.grown hg21 (own_blkne own2a h2 (by decide))
    exact h3.far (blk_ne h3 led21 (by decide)) _
  have hpn : ∀ a c, I64 a → I64 c → f2 (plit a c) = none → pam a c ps = [] := fun a c ha hc h => Classical.byContradiction fun hp => by
    obtain ⟨g, h1, _⟩ := hall a c ha hc hp
    rw [h] at h1; cases h1
  have hes : ents (xs ++ [⟨⟨q, ps, false⟩, v⟩]) = ents xs ++ [⟨q, ps, false⟩] := by simp [ents]
  have hlen : (xs ++ [(⟨⟨q, ps, false⟩, v⟩ : EV)]).length = m + 1 := by simp [hm]
  refine ⟨?_, ?_, fun a c u ha hc hu => ?_, fun a c ha hc hu => ?_, fun kl u hu => ?_, ?_, fun x hx => ?_, hL.hL, hL.hM⟩
  · rw [hlen]
    have := led21.set_ 2 (.slice (some ⟨g2, 0, none⟩) (m + 1) cap2)
    simpa using this
  · rw [hlen]
    exact (hm21.mono hk3).setCell (fun e => hLM e.symm) _
  · have hk := keyed_pl.key (pkey ha hc)
    rw [hes]
    cases h2 : f2 (plit a c) with
    | none =>
      have h3 := hf3n _ h2 u hu
      obtain ⟨g, rfl, hg⟩ := hL.row a c u ha hc h3
      refine ⟨g, rfl, ?_⟩
      rw [row_same (hpn a c ha hc h2)]
      exact blk g _ hg
    | some u2 =>
      have h3 := (hf3 _ hk).1 (by rw [h2]; simp)
      obtain ⟨a', c', ha', hc', hkl, hp⟩ := hkey _ u2 h2
      obtain ⟨rfl, rfl⟩ := plit_inj ha hc ha' hc' hkl
      obtain ⟨g, h4, h5, _⟩ := hall a c ha hc hp
      rw [h3, h4] at hu
      injection hu with hu
      refine ⟨g, hu.symm, ?_⟩
      rw [row_post hq]
      exact blk g _ h5
  · have hk := keyed_pl.key (pkey ha hc)
    rw [hes]
    cases h2 : f2 (plit a c) with
    | none =>
      have h3 := (hf3 _ hk).2 h2
      rw [hu] at h3
      rw [row_same (hpn a c ha hc h2)]
      exact hL.no a c ha hc h3.symm
    | some u2 =>
      have h3 := (hf3 _ hk).1 (by rw [h2]; simp)
      rw [hu, h2] at h3
      cases h3
  · cases h2 : f2 kl with
    | none => exact hL.keys kl u (hf3n kl h2 u hu)
    | some u2 =>
      obtain ⟨a, c, ha, hc, hkl, hp⟩ := hkey kl u2 h2
      obtain ⟨p, hp1, rfl, rfl⟩ := pam_some hp
      exact ⟨_, _, ha, hc, hno p hp1, hkl⟩
  · rw [hlen, List.flatMap_append]
    have h1 : List.flatMap evc [(⟨⟨q, ps, false⟩, v⟩ : EV)] = [.int .i64 (q : Int), v, .bool false] := by simp [evc]
    rw [h1]
    exact ownsRow_setCell_other hown21 (fun e => own_blkne hown21 led21 (by decide) e.symm) _
  · have fin : ∀ b n' (vv : Value) (l : List Value), w20.ownsRow b 48 3 vv n' l → (w21.setCell ⟨L, 2, none⟩ (.slice (some ⟨g2, 0, none⟩) (m + 1) cap2)).ownsRow b 48 3 vv n' l := fun b n' vv l h => by
      have h1 := h.alloc (.cells #[.int .i64 (q : Int), v, .bool false] 77)
      have h2 := own_grown h1 hg21 (own_apart h1 own2a (by decide))
      exact ownsRow_setCell_other h2 (fun e => own_blkne h2 led21 (by decide) e.symm) _
    rcases List.mem_append.1 hx with hx | hx
    · have h1 := hL.pst x hx
      have h2 := own_fr h1 hfr (fun k hk e => by
        subst e
        obtain ⟨cs, t2, hh⟩ := own_cells h1 k hk
        exact hL.map.not_cells hh rfl)
      exact fin _ _ _ _ (own_below h2 hb20)
    · rw [List.mem_singleton.1 hx]
      have h1 := fin _ _ _ _ hv
      exact Net.own_weak h1 hbu
set_option maxHeartbeats 4000000 in
set_option maxRecDepth 100000 in
theorem post_good (b0 L per M ce : Nat) (opn x : Int) (xs : List EV) (E A : Option Addr) (f : KF) (ps : List Post) (c : Nat) (w : World) (hL : LedW b0 L per opn xs E ce M f w) (hG : LedG per opn xs)
    (hr : Row w 0 A (cells ps)) (hl : ps.length ≤ 1000) (hI : ∀ p ∈ ps, Post.I p) (hE : chkE per opn xs.length x ps = 0) (hb0 : b0 ≤ w.heap.size) :
    Calls Try.prog 26 #[.pointer (some ⟨L, 0, none⟩), .int .i64 x, .slice A ps.length c] w (PostRet b0 L per opn xs E ce M f x ps w) := by
  obtain ⟨q, rfl, hq, hn1, hn32, hno, hox, hev, hx5⟩ := chk_ok hE
  have hC := check_is L per xs.length ce opn (q : Int) E A _ ps c w hL.led hr hl hI (by have := hG.len; omega)
  rw [hE] at hC
  have HC := Lib.hid hC
  have HEE := Lib.hid hE
  have HL := Lib.hid hL
  have HG := Lib.hid hG
  have HR := Lib.hid hr
  have HI := Lib.hid hI
  obtain ⟨n, hn⟩ : ∃ n, ps.length = n := ⟨_, rfl⟩
  rw [hn] at HC hl hn1 hn32 ⊢
  have HN := Lib.hid hn
  have HEV := Lib.hid hev
  have HNO := Lib.hid hno
  have hq0 : (0 : Int) ≤ (q : Int) := Int.natCast_nonneg _
  have hlen := hG.len
  have hper := hG.per2
  have hmk := @run_makeMap Try.prog
  clear hL hG hr hI hE hn hC hev hno
  go_enter Try.func26, Try.ntmps26
  go_wp2_with fail
  refine HC.out.mono ?_
  rintro e w1 ⟨rfl, hb⟩
  have HB1 := Lib.hid hb
  clear hb HC
  go_wp2_with fail
  have HMK := Lib.hid hmk
  clear hmk
  go_loopw [30] (fun i wr => ∃ (k : Nat) (f1 : KF), i = .int .i64 (k : Int) ∧ k ≤ n ∧ MoW w1 (ps.take k) w1.heap.size k f1 wr) (fun i _ => n - (intOf i).toNat)
  case atStart => exact ⟨0, _, rfl, by omega, MapV.made _ _ _, by rw [List.take_zero]; exact ⟨fun _ _ h => (by cases h), fun _ _ h => (by cases h), fun _ _ => rfl, fun _ _ _ _ h => (by cases h)⟩, alloc1 _ _, Nat.le_refl _⟩
  case round =>
    obtain ⟨k, f1, rfl, hk, hmo⟩ := hrel
    have HMO := Lib.hid hmo
    clear hmo
    have g0 : (0 : Int) ≤ (k : Int) := Int.natCast_nonneg _
    by_cases hlt : k < n
    · have hkl : k < ps.length := by rw [HN.out]; exact hlt
      obtain ⟨ad, rfl, _, c0, c1, c2⟩ := Net.Row.post ((HR.out.below HB1.out).below HMO.out.be) hkl
      have hpI := HI.out _ (List.getElem_mem hkl)
      have htk := take_end hkl
      obtain ⟨p, hp⟩ : ∃ p, p = ps[k] := ⟨_, rfl⟩
      rw [← hp] at c0 c1 c2 hpI htk
      have HTK := Lib.hid htk
      have g1 : (k : Int) < (n : Int) := by omega
      obtain ⟨st, w5, B, N, cv, hrun, hg5, hs5, hN, hown5, hnext⟩ := mo_entry (((HMO.out.later (alloc1 wr (.cells p.cells.toArray 48))).later (alloc1 _ (.cells #[.int .i64 p.acc, .int .i64 p.ct] 74))).later (alloc1 _ (.cells #[.int .i64 p.amt] 2))) hpI (by omega) (by rw [List.length_take]; omega)
      have hbs := (Blk.new ((wr.alloc (.cells p.cells.toArray 48)).alloc (.cells #[.int .i64 p.acc, .int .i64 p.ct] 74)) 2 #[.int .i64 p.amt]).grown hg5 (fun e => by
        have := (HMO.out.map.lt)
        simp at e
        omega)
      have hsz : w1.heap.size ≤ w5.heap.size := by
        have := HMO.out.be.size
        rw [hs5]; simp; omega
      obtain ⟨pa, pc, px⟩ := p
      dsimp only [Post.cells] at c0 c1 c2 hrun hnext hown5 hbs hs5
      have hb1' : (N + 1) * 8 ≤ 140737488355328 := by omega
      have hb2' : N + 1 ≤ maxLen := by unfold maxLen; omega
      have hsm : ((wr.alloc (.cells #[.int .i64 pa, .int .i64 pc, .int .i64 px] 48)).alloc (.cells #[.int .i64 pa, .int .i64 pc] 74)).heap.size = wr.heap.size + 1 + 1 := by simp
      rw [show ([Value.int .i64 pa, .int .i64 pc, .int .i64 px] : List Value).toArray = #[.int .i64 pa, .int .i64 pc, .int .i64 px] from rfl] at hrun hbs hs5
      rw [hsm] at hbs
      have HOWN := Lib.hid hown5
      have HNEXT := Lib.hid hnext
      have HBS := Lib.hid hbs
      clear hown5 hnext hbs hpI htk hp hkl hg5 hs5 HMO
      go_wp2_with (at_builtin; refine wpList_app E_i64 rfl (.tmp 41) (.tmp 44) rfl rfl HOWN.out ⟨wr.heap.size + 1 + 1, 0, none⟩ 1 1 [.int .i64 px] rfl rfl (fun j u hu => by rw [addr_add, Nat.zero_add]; exact (HBS.out.cell j).trans (by simpa using hu)) (one_cell _ _) hb1' hb2' hsz (by decide) ?_; intro g cap w6 hown6 hg6 hat6; obtain ⟨w7, hst7, hmo7⟩ := HNEXT.out g cap w6 hown6 hg6 hat6; have HMO7 := Lib.hid hmo7; clear hown6 hg6 hat6 hmo7)
      go_roundw
      case rel => exact ⟨k + 1, _, by go_num, by omega, by rw [HTK.out]; exact HMO7.out⟩
      case measure => simp only [intOf]; omega
    · obtain rfl : k = n := by omega
      rw [List.take_of_length_le (show ps.length ≤ k by rw [HN.out]; exact Nat.le_refl _)] at HMO
      have hmk := HMK.out
      have hM1 := HMO.out.map.lt
      have hB1 : w1.heap.size ≤ wr.heap.size := HMO.out.be.size
      go_wp2_with (at_range; refine wpList_rangeV rfl _ 60 rfl 74 55 keyed_pl Try.underlying60 w1.heap.size k f1 rfl (HMO.out.map.alloc _) ?_; intro w8 left0 cnt0 hrg0 hcn0 hst0 hg0 hs0; go_frame)
      have e1 : (wr.alloc (.map #[] 0)).heap.size = wr.heap.size + 1 := by simp
      have hm2 := (MapV.made Try.prog 74 wr).kept hg0 (by simp)
      have hgr8 := ((HMO.out.grp.later (alloc1 wr (.map #[] 0))).kept hg0 (fun _ _ _ _ _ => by simp))
      have hbe8 := (HMO.out.be.alloc HMO.out.be.size (.map #[] 0)).grown hg0 (by simp; omega) (fun j hj => by cases hj)
      try rw [e1] at hrg0
      try rw [e1]
      try rw [e1] at hs0
      have HGR := Lib.hid hgr8
      have HBE := Lib.hid hbe8
      have HFI := Lib.hid (show FiW per q (ents xs) ps (wr.heap.size + 1) wr.heap.size 0 f1 (fun _ => none) left0 w8 from ⟨hm2, fun kl v h => (by cases h), fun kl h1 h2 h3 => (by rw [hst0 kl h1 h2] at h3; cases h3)⟩)
      have HRG := Lib.hid hrg0
      have HNO1 := Lib.hid (HMO.out.grp.no)
      have HGB := Lib.hid (fun kl v g (h1 : f1 kl = some v) (h2 : v.ownBlock = some g) => ((HMO.out.grp.own kl v h1).lt g h2).2)
      have hRw : wr.heap.size + 1 < w8.heap.size := by omega
      clear hmk e1 hm2 hgr8 hbe8 hg0 hst0 hrg0 HMO hs0
      obtain ⟨M2, hM2⟩ : ∃ M2, wr.heap.size = M2 := ⟨_, rfl⟩
      rw [hM2] at HFI HRG hRw hB1 hM1 HGB
      try rw [hM2]
      clear hM2
      go_loopw [16] (fun _ wr => ∃ (left : Lit → Bool) (cnt k2 : Nat) (f2 : KF), RangeV Try.prog 74 w1.heap.size (M2 + 1) k f1 left cnt wr ∧ FiW per q (ents xs) ps (M2 + 1) M2 k2 f1 f2 left wr ∧ GrpL w1.heap.size f1 ps left wr ∧ Below w1.heap.size w1 wr ∧ k2 + cnt ≤ k ∧ M2 + 1 < wr.heap.size) (fun _ wr => wr.rangeLeft w1.heap.size (M2 + 1))
      case atStart => exact ⟨_, _, 0, _, HRG.out, HFI.out, fun kl v h1 _ => HGR.out.own kl v h1, HBE.out, by omega, hRw⟩
      case round =>
        clear HFI HBE HRG hRw hcn0
        obtain ⟨left, cnt, k2, f2, hrg, hfi, hgl, hbe, hkc, hRw⟩ := hrel
        have HFI := Lib.hid hfi
        have HGL := Lib.hid hgl
        have HBE := Lib.hid hbe
        have HM1 := Lib.hid hrg.left_eq
        clear hfi hgl hbe
        go_wp2_with (at_next; refine wpList_nextV rfl _ rfl 74 keyed_pl (fun x : Int × Int => Value.agg #[.int .i64 x.1, .int .i64 x.2]) pkey_inv w1.heap.size (M2 + 1) k f1 left cnt rfl hrg ?_ ?_)
        · intro _ hl0
          have hall : ∀ a c, I64 a → I64 c → pam a c ps ≠ [] → ∃ g, f2 (plit a c) = some (.slice (some ⟨g, 0, none⟩) per per) ∧ Blk wr g 2 (ints (newRow (rowL (ents xs) per a c) q (pam a c ps))).toArray ∧ okRow per q (newRow (rowL (ents xs) per a c) q (pam a c ps)) := fun a c ha hc hp => by
            have h1 : f1 (plit a c) ≠ none := fun e => hp (by
              have h2 := HNO1.out _ e
              rw [gP_at HI.out ha hc] at h2
              have := congrArg List.length h2
              rw [ints_len] at this
              exact List.length_eq_zero_iff.1 (by simpa using this))
            have h2 := HFI.out.got _ (keyed_pl.key (pkey ha hc)) h1 (hl0 _)
            cases hf : f2 (plit a c) with
            | none => exact absurd hf h2
            | some v =>
              obtain ⟨a', c', g, h3, h4, h5, h6, rfl, h8, h9, h10⟩ := HFI.out.row _ v hf
              obtain ⟨rfl, rfl⟩ := plit_inj ha hc h3 h4 h5
              exact ⟨g, rfl, h9, h10⟩
          have HALL := Lib.hid hall
          have HPE := Lib.hid (show postE per opn xs (q : Int) ps = 0 by
            unfold postE
            rw [if_pos HEE.out, if_pos (show fitAll per (ents xs) (q : Int).toNat ps from fun a c ha hc hp => by
              obtain ⟨_, _, _, h⟩ := hall a c ha hc hp
              rw [Int.toNat_natCast]
              exact h)])
          have HKEY := Lib.hid (fun kl v (h : f2 kl = some v) => show ∃ a c, I64 a ∧ I64 c ∧ kl = plit a c ∧ pam a c ps ≠ [] from by
            obtain ⟨a', c', g, h3, h4, h5, h6, _⟩ := HFI.out.row _ v h
            exact ⟨a', c', h3, h4, h5, h6⟩)
          have HMAP2 := Lib.hid HFI.out.map
          have hMM : M < M2 := by
            have h1 := HL.out.map.lt
            have h2 := HB1.out.size
            omega
          have HLL := Lib.hid ((HL.out.later HB1.out).later HBE.out)
          have HBB := Lib.hid (HB1.out.trans (HBE.out.mono HB1.out.size))
          obtain ⟨ws, hws⟩ : ∃ ws : World, ws = wr := ⟨_, rfl⟩
          rw [← hws] at HALL HMAP2 HLL HBB hRw ⊢
          have hk2 : k2 ≤ k := by omega
          clear hall hl0 hrg HFI HGL HBE HM1 hws HNO1 HGR hkc HGB
          go_wp2_with (at_range; refine wpList_rangeV rfl _ 60 rfl 74 55 keyed_pl Try.underlying60 M2 k2 f2 rfl HMAP2.out ?_; intro w13 left3 cnt3 hrg3 hcn3 hst3 hg3 hs3; go_frame)
          have hm13 := HLL.out.map.kept hg3 (by simp)
          have HRG3 := Lib.hid hrg3
          have HST3 := Lib.hid hst3
          have HM13 := Lib.hid hm13
          have HF13 := Lib.hid ((Fr.refl (fun z => z = M) ws).grown hg3 (fun z hz => by cases hz))
          have hMlt := HLL.out.map.lt
          have hR3 : ws.heap.size < w13.heap.size := by omega
          clear hrg3 hst3 hm13 hg3 hs3
          obtain ⟨R3, hR3e⟩ : ∃ R3, ws.heap.size = R3 := ⟨_, rfl⟩
          rw [hR3e] at HRG3 hR3 hMlt
          try rw [hR3e]
          have HR3 := Lib.hid hR3e
          clear hR3e
          go_loopw [19] (fun _ wr => ∃ (left : Lit → Bool) (cnt k3 : Nat) (f3 : KF), RangeV Try.prog 74 M2 R3 k2 f2 left cnt wr ∧ MapV Try.prog 74 M k3 f3 wr ∧ k3 + cnt ≤ 40 * xs.length + k2 ∧ (∀ kl, WideAt.IsKeyLit kl → (f2 kl ≠ none → left kl = false → f3 kl = f2 kl) ∧ ((f2 kl = none ∨ left kl = true) → f3 kl = f kl)) ∧ Fr (fun z => z = M) ws wr ∧ R3 < wr.heap.size ∧ (∀ kl, f2 kl = none → ∀ v, f3 kl = some v → f kl = some v)) (fun _ wr => wr.rangeLeft M2 R3)
          case atStart => exact ⟨_, _, _, _, HRG3.out, HM13.out, by omega, fun kl hk => ⟨fun h1 h2 => (by rw [HST3.out kl hk h1] at h2; cases h2), fun _ => rfl⟩, HF13.out, hR3, fun kl _ v h => h⟩
          case round =>
            clear HRG3 HST3 HM13 HF13 hcn3 hR3
            obtain ⟨left, cnt, k3, f3, hrg, hm3, hkc, hf3, hfr, hRw3, hf3n⟩ := hrel
            have HM3 := Lib.hid hm3
            have HF3 := Lib.hid hf3
            have HFR := Lib.hid hfr
            have HF3N := Lib.hid hf3n
            have HM1 := Lib.hid hrg.left_eq
            clear hm3 hf3 hfr hf3n
            go_wp2_with (at_next; refine wpList_nextV rfl _ rfl 74 keyed_pl (fun x : Int × Int => Value.agg #[.int .i64 x.1, .int .i64 x.2]) pkey_inv M2 R3 k2 f2 left cnt rfl hrg ?_ ?_)
            · intro _ hl0
              have hf3' : ∀ kl, WideAt.IsKeyLit kl → (f2 kl ≠ none → f3 kl = f2 kl) ∧ (f2 kl = none → f3 kl = f kl) := fun kl hk => ⟨fun h => (HF3.out kl hk).1 h (hl0 kl), fun h => (HF3.out kl hk).2 (.inl h)⟩
              have HF3' := Lib.hid hf3'
              obtain ⟨wu, hwu⟩ : ∃ wu : World, wu = wr := ⟨_, rfl⟩
              rw [← hwu] at HM3 HFR hRw3 ⊢
              obtain ⟨m, hm⟩ : ∃ m, xs.length = m := ⟨_, rfl⟩
              have HM := Lib.hid hm
              have hsu : ws.heap.size ≤ wu.heap.size := HFR.out.size
              have hsw : w.heap.size ≤ ws.heap.size := HBB.out.size
              have hrowu : Row wu 0 A (cells ps) := row_fr HLL.out.map (HR.out.below HBB.out) HFR.out
              have hcl := pclone_any A ps c wu.drew (by rw [HN.out]; exact hn1) hrowu (by rw [HN.out]; omega)
              rw [HN.out] at hcl
              have HCL := Lib.hid hcl
              have own0 := HLL.out.own
              rw [hm] at own0
              have led0 := HLL.out.led
              rw [hm] at led0
              have hLM : ¬ L = M := fun e => HLL.out.map.not_cells led0 e
              have ledu := led0.fr HFR.out hLM
              have ownu := own_fr own0 HFR.out (fun k hk e => by
                subst e
                obtain ⟨cs, t2, hh⟩ := own_cells own0 k hk
                exact HLL.out.map.not_cells hh rfl)
              have HLEDU := Lib.hid ledu
              have HOWNU := Lib.hid ownu
              have a2 : wu.cell? ⟨L, 2, none⟩ = some (.slice E m ce) := ledu.cell 2
              have hb1' : (m + 1) * 40 ≤ 140737488355328 := by omega
              have hb2' : m + 1 ≤ maxLen := by unfold maxLen; omega
              have hbu : b0 ≤ wu.heap.size := by omega
              have hk3' : k3 ≤ 40 * (m + 1) := by omega
              rw [hm] at hx5 hlen
              clear hf3' hrg hwu hrowu hcl own0 led0 hLM ledu ownu hm HF3 HM1 hl0
              go_wp2_with fail
              go_region_law (first
                | (refine step_app E_en rfl (.tmp 87) (.tmp 92) rfl rfl (HO20.out.alloc _) ⟨w20.heap.size, 0, none⟩ 1 1 [.int .i64 (q : Int), .slice (some ⟨g1, 0, none⟩) k cap1, .bool false] rfl rfl (World.news_of_block (heap_alloc_new w20 _)) (by simp [Value.oneCell']) hb1' hb2' (by simp; omega) (by decide) (w20.heap.size + 1) (by simp) ?_; intro g2 cap2 w21 hown21 hg21 hat21 hlt21; have hl21 := HL20.out.alloc (.cells #[.int .i64 (q : Int), .slice (some ⟨g1, 0, none⟩) k cap1, .bool false] 77); have hl22 := hl21.grown hg21 (own_blkne (HO20.out.alloc _) hl21 (by decide)); have s1 : w21.cell? ⟨L, 2, none⟩ = some (.slice E m ce) := hl22.cell 2; have s2 := hl22.frozen 2; have HO21 := Lib.hid hown21; have HG21 := Lib.hid hg21; have HA21 := Lib.hid hat21; clear hown21 hg21 hat21 hl21 hl22)
                | (go_simp; go_at_call 37; refine HCL.out.mono ?_; rintro e w20 ⟨g1, cap1, rfl, hv, hb20⟩; have hb20' : Below wu.heap.size wu w20 := (Below.drew (Below.refl _ wu)).trans hb20; have HO20 := Lib.hid (own_below HOWNU.out hb20'); have HL20 := Lib.hid (HLEDU.out.below hb20' HLEDU.out.lt); have HV20 := Lib.hid hv; have HB20 := Lib.hid hb20'; have hs20 := hb20'.size; have r1 : w20.cell? ⟨L, 2, none⟩ = some (.slice E m ce) := HL20.out.cell 2; have r2 : (w20.alloc (.cells #[.int .i64 (q : Int), .slice (some ⟨g1, 0, none⟩) k cap1, .bool false] 77)).cell? ⟨L, 2, none⟩ = some (.slice E m ce) := (HL20.out.alloc _).cell 2; clear hv hb20 hb20'))
              all_goals
                go_wp2_with fail
                go_ret2
                have hled := led_post HLL.out HM.out HALL.out HKEY.out HF3'.out HF3N.out HM3.out hk3' HFR.out (noAny_all HNO.out) hq HB20.out (by rw [HN.out]; exact HV20.out) HO21.out HG21.out hbu
                refine .inr ⟨HPE.out, ?_, .slice (some ⟨g1, 0, none⟩) k cap1, some ⟨g2, 0, none⟩, cap2, f3, ?_, ?_, ?_⟩
                · rw [HM.out]
                  first | rfl | simp
                · rw [Int.toNat_natCast]
                  exact hled
                · rw [HM.out]
                  exact (((((Fr.later HBB.out).trans (HFR.out.weak (fun z _ h => .inr (.inl h)))).trans (Fr.later HB20.out)).alloc _).grown HG21.out (fun z hz _ => .inr (.inr hz))).setCell (fun _ => .inl rfl) _
                · intro g hg
                  rw [HM.out]
                  simp only [Value.ownBlock, Option.some.injEq] at hg
                  rcases HA21.out with h | h
                  · exact .inl (by rw [← hg]; exact h)
                  · exact .inr (by omega)
            · intro a b A2 u cu kl w9 cnt1 hkey hlx hf hrg1 hlt hg1 hs1 hen
              try dsimp only at hkey
              try dsimp only at hen
              try dsimp only
              obtain ⟨ha, hb, hkl⟩ := pkey_back hkey
              subst hkl
              have hm9 := HM3.out.kept hg1 (fun e => by injection e with e; exact rangeV_map hrg HM3.out e)
              have hfr9 := HFR.out.grown hg1 (fun z hz hlt => by injection hz with hz; have := HR3.out; omega)
              have hal := alloc1 w9 (.cells #[.int .i64 a, .int .i64 b] 74)
              have hbk9 := Blk.new w9 74 #[.int .i64 a, .int .i64 b]
              obtain ⟨Z, hZ⟩ : ∃ Z, w9.heap.size = Z := ⟨_, rfl⟩
              obtain ⟨wz, hwz⟩ : ∃ wz, w9.alloc (.cells #[.int .i64 a, .int .i64 b] 74) = wz := ⟨_, rfl⟩
              rw [hwz] at hal hbk9
              rw [hZ] at hbk9
              have hZR : R3 < Z := by omega
              have hrgz := (hrg1.later hal).later (Below.drew (Below.refl _ wz))
              have hmz := (hm9.later hal).later (Below.drew (Below.refl _ wz))
              have hfrz := (hfr9.trans (Fr.later hal)).drew
              have l3 : wz.cell? ⟨L, 3, none⟩ = some (.map (some M)) := (HLL.out.led.fr hfrz (fun e => HLL.out.map.not_cells HLL.out.led e)).cell 3
              have z0 : wz.cell? ⟨Z, 0, none⟩ = some (.int .i64 a) := hbk9.cell 0
              have z1 : wz.cell? ⟨Z, 1, none⟩ = some (.int .i64 b) := hbk9.cell 1
              obtain ⟨w12, hput, hm12, hg12⟩ := hmz.put keyed_pl Try.underlying60 (by unfold maxLen; omega) (pkey ha hb) A2 u cu
              have hkl : WideAt.IsKeyLit (plit a b) := keyed_pl.key (pkey ha hb)
              have hrg12 := hrgz.kept hg12 (fun e => by injection e with e; omega) (fun e => by injection e with e; omega)
              have hfr12 := hfrz.grown hg12 (fun z hz _ => by injection hz with hz; exact hz.symm)
              have hs12 : R3 < w12.heap.size := by
                have h1 := hfr12.size
                have h2 := hg12.size
                have h3 := hal.size
                have h4 : wz.drew.heap.size = wz.heap.size := rfl
                omega
              have HF3' := Lib.hid (show ∀ kl, WideAt.IsKeyLit kl → (f2 kl ≠ none → (left kl && !kl.sameKey (plit a b)) = false → upd f3 (plit a b) (.slice A2 u cu) kl = f2 kl) ∧ ((f2 kl = none ∨ (left kl && !kl.sameKey (plit a b)) = true) → upd f3 (plit a b) (.slice A2 u cu) kl = f kl) from fun kl hk => by
                by_cases e : kl = plit a b
                · subst e
                  rw [upd_same]
                  refine ⟨fun _ _ => hf.symm, fun h => ?_⟩
                  rcases h with h | h
                  · rw [hf] at h; cases h
                  · have h5 := struck_same (left := left) hkl
                    exact absurd (h5.symm.trans h) (by decide)
                · rw [upd_other f3 _ e]
                  have h5 := struck_other (left := left) e
                  have h6 : (left kl && !kl.sameKey (plit a b)) = left kl := h5
                  rw [h6]
                  exact HF3.out kl hk)
              have HF3N' := Lib.hid (show ∀ kl, f2 kl = none → ∀ v, upd f3 (plit a b) (.slice A2 u cu) kl = some v → f kl = some v from fun kl h v hv => by
                by_cases e : kl = plit a b
                · subst e; rw [hf] at h; cases h
                · rw [upd_other f3 _ e] at hv; exact HF3N.out kl h v hv)
              have HRG12 := Lib.hid hrg12
              have HM12 := Lib.hid hm12
              have HFR12 := Lib.hid hfr12
              have HLT := Lib.hid hlt
              have HWZ := Lib.hid hwz
              have HZZ := Lib.hid hZ
              have hk3 : k3 + 1 + cnt1 ≤ 40 * xs.length + k2 := by omega
              clear hkey hlx hf hrg1 hlt hg1 hs1 hm9 hfr9 hal hbk9 hrgz hmz hfrz hm12 hg12 hkl hrg12 hfr12 hwz hZ hrg
              go_wp2_with fail
              try rw [HZZ.out]
              try rw [HWZ.out]
              go_still_tail 6, (by kernel_rfl)
              change wpList _ _ _ _ _ wz.drew
              go_wp2_with fail
              go_roundw
              case rel => exact ⟨_, cnt1, k3 + 1, _, HRG12.out, HM12.out, hk3, HF3'.out, HFR12.out, hs12, HF3N'.out⟩
              case measure => rw [HRG12.out.left_eq, HM1.out]; exact HLT.out
        · intro a b A u cu kl w9 cnt1 hkey hlx hf hrg1 hlt hg1 hs1 hen
          try dsimp only at hkey
          try dsimp only at hen
          try dsimp only
          obtain ⟨ha, hb, hkl⟩ := pkey_back hkey
          have hrf : Fr (fun z => z = M2 + 1) wr w9 := (Fr.refl _ wr).grown hg1 (fun z hz _ => by injection hz with hz; exact hz.symm)
          have hfi9 := HFI.out.fr hrf (rangeV_map hrg HFI.out.map) (fun g cs _ hbk => rangeV_cells hrg hbk)
          have hgl9 : GrpL w1.heap.size f1 ps left w9 := HGL.out.fr hrf (fun _ h => h) (fun kl v g h1 h2 h3 => by
            obtain ⟨cs, t2, hh⟩ := own_cells (HGL.out kl v h1 h2) g h3
            exact rangeV_cells hrg hh)
          have hbe9 := HBE.out.grown hg1 HBE.out.size (fun j hj => by injection hj with hj; omega)
          have hal := alloc1 w9 (.cells #[.int .i64 a, .int .i64 b] 74)
          have hbk9 := Blk.new w9 74 #[.int .i64 a, .int .i64 b]
          obtain ⟨Z, hZ⟩ : ∃ Z, w9.heap.size = Z := ⟨_, rfl⟩
          obtain ⟨wz, hwz⟩ : ∃ wz, w9.alloc (.cells #[.int .i64 a, .int .i64 b] 74) = wz := ⟨_, rfl⟩
          have hszz : wz.heap.size = Z + 1 := by rw [← hwz, ← hZ]; simp
          rw [hwz] at hal hbk9
          have hrgz := hrg1.later hal
          have hfiz := hfi9.fr (Fr.later hal (S := fun _ => False)) (fun h => h) (fun _ _ _ _ h => h)
          have hglz : GrpL w1.heap.size f1 ps left wz := hgl9.fr (Fr.later hal (S := fun _ => False)) (fun _ h => h) (fun _ _ _ _ _ _ h => h)
          have hbez := hbe9.trans (hal.mono hbe9.size)
          rw [hZ] at hbk9
          have HWZ := Lib.hid hwz
          have HZZ := Lib.hid hZ
          have hZR : M2 + 1 < Z := by omega
          have hownz := hglz kl _ hf hlx
          subst hkl
          rw [gP_at HI.out ha hb] at hownz
          obtain ⟨A', c', hv, hcv⟩ := own_slice hownz
          injection hv with hA hu hc'
          subst hA hc'
          rw [ints_len] at hu hownz
          have hpamI := pam_I HI.out a b
          have hpm : pam a b ps ≠ [] := fun e => by
            have h1 := HGR.out.pos (plit a b) _ hf
            rw [gP_at HI.out ha hb, e] at h1
            exact h1 rfl
          have hul : u ≤ 1000 := by
            rw [hu]
            unfold pam
            rw [List.length_map]
            exact Nat.le_trans (List.length_filter_le _ _) (by rw [HN.out]; omega)
          rw [← hu] at hownz
          have hLz := (HL.out.later HB1.out).later hbez
          obtain ⟨B, nn, cv, cs, hlook, hcs, hnn, hrow, hone, hold, _⟩ := hLz.look ha hb
          have hfits := fits_any L M w1.heap.size per q nn cv u cu opn (.slice E xs.length ce) a b B A cs (rowL (ents xs) per a b) (pam a b ps) (40 * xs.length) f wz hLz.led hLz.map ha hb hq hper hlook hcs hnn hrow hone hold (rowL_len _ _ _ _) (HG.out.I ha hb) hownz hul hbez.size hpamI (fun e => own_box hownz hLz.led (by decide) e.symm) (fun e => mapV_ne hLz.map hownz e.symm)
          have HFITS := Lib.hid hfits
          have z0 : wz.cell? ⟨Z, 0, none⟩ = some (.int .i64 a) := hbk9.cell 0
          have z1 : wz.cell? ⟨Z, 1, none⟩ = some (.int .i64 b) := hbk9.cell 1
          have HOWNZ := Lib.hid hownz
          have HBKZ := Lib.hid hbk9
          have HRGZ := Lib.hid hrgz
          have HFIZ := Lib.hid hfiz
          have HGLZ := Lib.hid hglz
          have HBEZ := Lib.hid hbez
          have HLT := Lib.hid hlt
          have HPM := Lib.hid hpm
          have HFF := Lib.hid hf
          have HLX := Lib.hid hlx
          have HAB := Lib.hid (And.intro ha hb)
          clear hfits hownz hbk9 hrgz hfiz hglz hbez hlt hpm hf hlx hpamI hul hLz hlook hcs hnn hrow hone hold hu hcv hrf hfi9 hgl9 hbe9 hal hkey hrg hrg1 hg1 hs1 ha hb hwz hZ
          go_wp2_with fail
          try rw [HZZ.out]
          try rw [HWZ.out]
          refine HFITS.out.mono ?_
          rintro e w11 ⟨hfr, hcase⟩
          have hg11 : wz.grownBy w11 (Value.slice A u cu).ownBlock := ⟨hfr.os, hfr.tape, hfr.output, hfr.size, fun i hi hne => hfr.block i hi (fun e => hne e.symm)⟩
          have hown := HOWNZ.out
          have hfi11 := HFIZ.out.fr hfr (fun e => mapV_ne HFIZ.out.map hown e.symm) (fun g cs hR _ e => by have := HGB.out _ _ g HFF.out e; omega)
          have hbk11 := HBKZ.out.grown hg11 (own_box hown HBKZ.out (by decide))
          have hbe11 := HBEZ.out.grown hg11 HBEZ.out.size (fun j hj => (hown.lt j hj).1)
          rcases hcase with ⟨hok, g, rfl, hown11⟩ | ⟨hnok, rfl⟩
          · have hblk := own_blk_of hown11
            have hgR := (own_block hown11).1
            obtain ⟨ha, hb⟩ := HAB.out
            have hkl : WideAt.IsKeyLit (plit a b) := keyed_pl.key (pkey ha hb)
            have hso : ∀ kl, kl ≠ plit a b → (fun z : Lit => left z && !z.sameKey (plit a b)) kl = left kl := fun kl e => struck_other e
            have hgl11 : GrpL w1.heap.size f1 ps (fun z => left z && !z.sameKey (plit a b)) w11 := HGLZ.out.fr hfr (fun kl h => by simp at h; exact h.1) (fun kl v g2 h1 h2 h3 h4 => by
              have hne : kl ≠ plit a b := fun e => by
                have h5 := struck_same (left := left) hkl
                rw [e] at h2
                exact absurd (h5.symm.trans h2) (by decide)
              exact HGR.out.apart kl (plit a b) v _ h1 HFF.out hne g2 h3 h4)
            have hrg11 := HRGZ.out.kept hg11 (mapV_ne HRGZ.out.owns hown) (fun e => by
              obtain ⟨cs, t2, hh⟩ := own_cells hown (M2 + 1) e.symm
              exact rangeV_cells HRGZ.out hh rfl)
            obtain ⟨w12, hput, hfi12, hg12⟩ := hfi11.put (by omega) ha hb HPM.out (by omega) hblk hok hso
            have hrg12 := hrg11.kept hg12 (fun e => by injection e with e; omega) (fun e => by injection e with e; omega)
            have hgl12 : GrpL w1.heap.size f1 ps (fun z => left z && !z.sameKey (plit a b)) w12 := hgl11.fr ((Fr.refl (fun z => z = M2) w11).grown hg12 (fun z hz _ => by injection hz with hz; exact hz.symm)) (fun _ h => h) (fun kl v g2 h1 h2 h3 h4 => by
              obtain ⟨cs, t2, hh⟩ := own_cells (hgl11 kl v h1 h2) g2 h3
              exact hfi11.map.not_cells hh h4)
            have hbe12 := hbe11.grown hg12 hbe11.size (fun j hj => by injection hj with hj; omega)
            have hs12 : M2 + 1 < w12.heap.size := by
              have h1 := hg11.size
              have h2 := hg12.size
              omega
            have y0 : w11.cell? ⟨Z, 0, none⟩ = some (.int .i64 a) := hbk11.cell 0
            have y1 : w11.cell? ⟨Z, 1, none⟩ = some (.int .i64 b) := hbk11.cell 1
            have HRG12 := Lib.hid hrg12
            have HFI12 := Lib.hid hfi12
            have HGL12 := Lib.hid hgl12
            have HBE12 := Lib.hid hbe12
            have hlt2 := HLT.out
            have hk2 : k2 + 1 + cnt1 ≤ k := by omega
            clear hg11 hown hfi11 hbk11 hbe11 hok hown11 hblk hgR hkl hso hgl11 hrg11 hfi12 hg12 hrg12 hgl12 hbe12 hfr
            go_wp2_with fail
            go_roundw
            case rel => exact ⟨_, cnt1, k2 + 1, _, HRG12.out, HFI12.out, HGL12.out, HBE12.out, hk2, hs12⟩
            case measure => rw [HRG12.out.left_eq, HM1.out]; exact HLT.out
          · have HP3 := Lib.hid (show postE per opn xs (q : Int) ps = 3 by
              unfold postE
              rw [if_pos HEE.out, if_neg (fun hall => hnok (hall a b HAB.out.1 HAB.out.2 HPM.out))])
            have HBEF := Lib.hid (HB1.out.trans (hbe11.mono HB1.out.size))
            clear hg11 hown hfi11 hbk11 hbe11 hnok hfr
            go_wp2_with fail
            go_ret2
            exact .inl ⟨by rw [HP3.out]; decide, by rw [HP3.out]; rfl, HBEF.out⟩
section
open Go.RowKit Go.Proofs.Ytmijcgcppankcaa.Cents Go.Proofs.Ytmijcgcppankcaa.MV Go.Proofs.Ytmijcgcppankcaa.Net Go.Proofs.Ytmijcgcppankcaa.CO
open Go.Maps (Keyed)
set_option linter.unusedVariables false
set_option linter.unusedSimpArgs false

theorem post_any (b0 L per M ce : Nat) (opn x : Int) (xs : List EV) (E A : Option Addr) (f : KF) (ps : List Post) (c : Nat) (w : World) (hL : LedW b0 L per opn xs E ce M f w) (hG : LedG per opn xs)
    (hr : Row w 0 A (cells ps)) (hl : ps.length ≤ 1000) (hI : ∀ p ∈ ps, Post.I p) (hb0 : b0 ≤ w.heap.size) :
    Calls Try.prog 26 #[.pointer (some ⟨L, 0, none⟩), .int .i64 x, .slice A ps.length c] w (PostRet b0 L per opn xs E ce M f x ps w) := by
  by_cases hE : chkE per opn xs.length x ps = 0
  · exact post_good b0 L per M ce opn x xs E A f ps c w hL hG hr hl hI hE hb0
  · exact post_bad b0 L per M ce ps.length opn x xs E A f ps c w hL hG hr hl hI hE
theorem take_set_le {l : List Int} {q p : Nat} {v : Int} (h : p < q) : (l.set q v).take (p + 1) = l.take (p + 1) := by
  apply List.ext_getElem?
  intro i
  rw [List.getElem?_take, List.getElem?_take]
  by_cases hi : i < p + 1
  · rw [if_pos hi, if_pos hi, List.getElem?_set_ne (by omega)]
  · rw [if_neg hi, if_neg hi]
theorem ledg_post {per : Nat} {opn x : Int} {xs : List EV} {ps : List Post} {v : Value} (h : LedG per opn xs) (hI : ∀ p ∈ ps, Post.I p) (hE : postE per opn xs x ps = 0) : LedG per opn (xs ++ [⟨⟨x.toNat, ps, false⟩, v⟩]) := by
  unfold postE at hE
  by_cases hc : chkE per opn xs.length x ps = 0
  · rw [if_pos hc] at hE
    obtain ⟨q, rfl, hq, hn1, hn32, hno, hox, hev, hx5⟩ := chk_ok hc
    rw [Int.toNat_natCast] at hE ⊢
    have hf : fitAll per (ents xs) q ps := Classical.byContradiction fun c => by rw [if_neg c] at hE; omega
    have hes : ents (xs ++ [⟨⟨q, ps, false⟩, v⟩]) = ents xs ++ [⟨q, ps, false⟩] := by simp [ents]
    have hlen := h.len
    refine ⟨h.per1, h.per2, h.o0, h.o1, by simp; omega, fun y hy => ?_, fun a c ha hc2 p hp => ?_⟩
    · rcases List.mem_append.1 hy with hy | hy
      · exact h.ok y hy
      · rw [List.mem_singleton.1 hy]
        exact ⟨hq, hn1, hn32, fun p hp => ⟨hI p hp, noAny_all hno p hp⟩⟩
    · rw [hes]
      by_cases hp0 : pam a c ps = []
      · rw [row_same hp0]
        have h1 := h.fit a c ha hc2 p hp
        refine ⟨?_, h1.2⟩
        rw [movL_snoc]
        simp only [hp0]
        simpa using h1.1
      · have hok := hf a c ha hc2 hp0
        have h1 := h.fit a c ha hc2 p hp
        have hg := row_post (es := ents xs) (ps := ps) (t := false) (a := a) (c := c) hq
        rw [← rowL_get (es := ents xs ++ [(⟨q, ps, false⟩ : Ent)]) (a := a) (c := c) hp, hg]
        by_cases hpq : p = q
        · subst hpq
          exact ⟨hok.1, hok.2 p (Nat.le_refl _) hp⟩
        · refine ⟨?_, ?_⟩
          · unfold newRow
            rw [List.getD_eq_getElem?_getD, List.getElem?_set_ne (fun e => hpq e.symm), ← List.getD_eq_getElem?_getD, rowL_get hp]
            exact h1.1
          · rcases Nat.lt_or_ge p q with hlt | hge
            · unfold newRow
              rw [take_set_le hlt]
              exact h1.2
            · exact hok.2 p hge hp
  · rw [if_neg hc] at hE; exact absurd hE hc
theorem open_is (L : Nat) (opn : Int) (w : World) (c1 : w.cell? ⟨L, 1, none⟩ = some (.int .i64 opn)) :
    Calls Try.prog 15 #[.pointer (some ⟨L, 0, none⟩)] w fun e w' => e = .returned (.int .i64 opn) ∧ w = w' := by
  go_enter Try.func15, Try.ntmps15
  go_wp2_with fail
  go_ret
  exact ⟨rfl, rfl⟩
theorem many_is (L n c : Nat) (E : Option Addr) (w : World) (c2 : w.cell? ⟨L, 2, none⟩ = some (.slice E n c)) :
    Calls Try.prog 16 #[.pointer (some ⟨L, 0, none⟩)] w fun e w' => e = .returned (.int .i64 (n : Int)) ∧ w = w' := by
  go_enter Try.func16, Try.ntmps16
  go_wp2_with fail
  go_ret
  exact ⟨rfl, rfl⟩
def movR (per : Nat) (es : List Ent) (a k x : Int) : Int := if hasP per x then movL es a k x.toNat else 0
def balR (per : Nat) (es : List Ent) (a k x : Int) : Int := if hasP per x then ((rowL es per a k).take (x.toNat + 1)).sum else 0
theorem zeros_get (n i : Nat) : (zeros n).getD i 0 = 0 := by
  unfold zeros
  rw [List.getD_eq_getElem?_getD, List.getElem?_replicate]
  split <;> rfl
theorem zeros_take (n i : Nat) : ((zeros n).take i).sum = 0 := by
  unfold zeros
  rw [List.take_replicate]
  have : ∀ k, (List.replicate k (0 : Int)).sum = 0 := fun k => by induction k with
    | zero => rfl
    | succ k ih => rw [List.replicate_succ, List.sum_cons, ih]; rfl
  exact this _
section
variable {b0 L per M ce : Nat} {opn : Int} {xs : List EV} {E : Option Addr} {f : KF} {w : World}
theorem moved_is (hL : LedW b0 L per opn xs E ce M f w) (hG : LedG per opn xs) (a k x : Int) (ha : I64 a) (hk : I64 k) (hx : I64 x) (v : Int) (hv : movR per (ents xs) a k x = v) :
    Calls Try.prog 19 #[.pointer (some ⟨L, 0, none⟩), .int .i64 a, .int .i64 k, .int .i64 x] w fun e w' => e = .returned (.int .i64 v) ∧ w = w' := by
  have HV := Lib.hid hv
  have c3 : w.cell? ⟨L, 3, none⟩ = some (.map (some M)) := hL.led.cell 3
  have hlk := hL.map.look keyed_pl Try.underlying60 (zero_l _) (pkey ha hk)
  obtain ⟨B, nn, cv, cs, hlook, hcs, hnn, hrow, hone, hold, hcase⟩ := hL.look ha hk
  rw [hlook] at hlk
  have hp2 := hG.per2
  rcases hcase with ⟨rfl, hz⟩ | ⟨rfl, hcs2, g, rfl⟩
  · have h0 : v = 0 := by
      rw [← hv]
      unfold movR
      split
      · rename_i h
        unfold hasP at h
        rw [← rowL_get (es := ents xs) (a := a) (c := k) (show x.toNat < per by omega), hz, zeros_get]
      · rfl
    subst h0
    by_cases hx0 : x < 0
    · clear hL hG hv HV hlook hcs hrow hone hold hz
      go_enter Try.func19, Try.ntmps19
      go_wp2_with fail
      go_ret
      exact ⟨rfl, rfl⟩
    · have hx1 : 0 ≤ x := by omega
      clear hL hG hv HV hlook hcs hrow hone hold hz
      go_enter Try.func19, Try.ntmps19
      go_wp2_with fail
      go_ret
      exact ⟨rfl, rfl⟩
  · by_cases hh : hasP nn x
    · obtain ⟨q, rfl⟩ : ∃ q : Nat, x = (q : Int) := ⟨x.toNat, by unfold hasP at hh; omega⟩
      have hq : q < nn := by unfold hasP at hh; omega
      have g0 : (0 : Int) ≤ (q : Int) := Int.natCast_nonneg _
      have g1 : (q : Int) < (nn : Int) := by omega
      obtain ⟨ad, had, _, hc⟩ := hrow (by omega)
      cases had
      have cq : w.cell? (Addr.add ⟨g, 0, none⟩ q) = some (.int .i64 v) := hc q _ (by
        rw [hcs2, show (ints (rowL (ents xs) nn a k))[q]? = ((rowL (ents xs) nn a k)[q]?).map (Value.int .i64) by simp [ints]]
        have h1 := rowL_get (es := ents xs) (a := a) (c := k) hq
        rw [List.getD_eq_getElem?_getD, List.getElem?_eq_getElem (by rw [rowL_len]; exact hq), Option.getD_some] at h1
        rw [List.getElem?_eq_getElem (by rw [rowL_len]; exact hq), h1, ← hv]
        unfold movR
        rw [if_pos hh, Int.toNat_natCast]
        rfl)
      rw [addr_add, Nat.zero_add] at cq
      clear hL hG hv HV hlook hcs hrow hone hold hcs2 hc hh
      go_enter Try.func19, Try.ntmps19
      go_wp2_with fail
      go_ret
      exact ⟨rfl, rfl⟩
    · have h0 : v = 0 := by rw [← hv]; unfold movR; rw [if_neg hh]
      subst h0
      have hx2 : x < 0 ∨ (0 ≤ x ∧ (nn : Int) ≤ x) := by unfold hasP at hh; omega
      clear hL hG hv HV hlook hcs hrow hone hold hcs2 hh
      rcases hx2 with hx2 | ⟨hx2, hx3⟩
      · go_enter Try.func19, Try.ntmps19
        go_wp2_with fail
        go_ret
        exact ⟨rfl, rfl⟩
      · go_enter Try.func19, Try.ntmps19
        go_wp2_with fail
        go_ret
        exact ⟨rfl, rfl⟩
end
end
section
open Go.RowKit Go.Proofs.Ytmijcgcppankcaa.Cents Go.Proofs.Ytmijcgcppankcaa.MV Go.Proofs.Ytmijcgcppankcaa.Net Go.Proofs.Ytmijcgcppankcaa.CO
open Go.Maps (Keyed)
set_option linter.unusedVariables false
set_option linter.unusedSimpArgs false

section
variable {b0 L per M ce : Nat} {opn : Int} {xs : List EV} {E : Option Addr} {f : KF} {w : World}
theorem balance_is (hL : LedW b0 L per opn xs E ce M f w) (hG : LedG per opn xs) (a k x : Int) (ha : I64 a) (hk : I64 k) (hx : I64 x) (v : Int) (hv : balR per (ents xs) a k x = v) :
    Calls Try.prog 21 #[.pointer (some ⟨L, 0, none⟩), .int .i64 a, .int .i64 k, .int .i64 x] w fun e w' => e = .returned (.int .i64 v) ∧ Below w.heap.size w w' := by
  have HV := Lib.hid hv
  have c3 : w.cell? ⟨L, 3, none⟩ = some (.map (some M)) := hL.led.cell 3
  have hlk := hL.map.look keyed_pl Try.underlying60 (zero_l _) (pkey ha hk)
  obtain ⟨B, nn, cv, cs, hlook, hcs, hnn, hrow, hone, hold, hcase⟩ := hL.look ha hk
  rw [hlook] at hlk
  have hp2 := hG.per2
  rcases hcase with ⟨rfl, hz⟩ | ⟨rfl, hcs2, g, rfl⟩
  · have h0 : v = 0 := by
      rw [← hv]
      unfold balR
      split
      · rw [hz, zeros_take]
      · rfl
    subst h0
    by_cases hx0 : x < 0
    · clear hL hG hv HV hlook hcs hrow hone hold hz
      go_enter Try.func21, Try.ntmps21
      go_wp2_with fail
      go_ret
      exact ⟨rfl, Below.refl _ _⟩
    · have hx1 : 0 ≤ x := by omega
      clear hL hG hv HV hlook hcs hrow hone hold hz
      go_enter Try.func21, Try.ntmps21
      go_wp2_with fail
      go_ret
      exact ⟨rfl, Below.refl _ _⟩
  · by_cases hh : hasP nn x
    · obtain ⟨q, rfl⟩ : ∃ q : Nat, x = (q : Int) := ⟨x.toNat, by unfold hasP at hh; omega⟩
      have hq : q < nn := by unfold hasP at hh; omega
      have g0 : (0 : Int) ≤ (q : Int) := Int.natCast_nonneg _
      have g1 : (q : Int) < (nn : Int) := by omega
      have hv2 : ((rowL (ents xs) nn a k).take (q + 1)).sum = v := by rw [← hv]; unfold balR; rw [if_pos hh, Int.toNat_natCast]
      have hlen : ((rowL (ents xs) nn a k).take (q + 1)).length = q + 1 := by rw [List.length_take, rowL_len]; omega
      have hsum := sum_is (some ⟨g, 0, none⟩) ((rowL (ents xs) nn a k).take (q + 1)) cv w v 0 (fun y hy => hG.I ha hk y (List.mem_of_mem_take hy)) (row_take (by rw [hcs2] at hrow; exact hrow) (q + 1)) (by rw [hlen]; omega) (by
        have h1 := (hG.fit a k ha hk q hq).2
        rw [hv2] at h1 ⊢
        unfold sumN sumE
        rw [if_pos h1, if_pos h1]
        exact ⟨rfl, rfl⟩)
      rw [hlen] at hsum
      have HSUM := Lib.hid hsum
      have hcap : cv = nn := by
        have h1 := hlook
        cases hf : f (plit a k) with
        | none =>
          rw [hf] at h1
          injection h1 with h2
          cases h2
        | some u =>
          rw [hf] at h1
          obtain ⟨g', rfl, _⟩ := hL.row a k u ha hk hf
          injection h1 with _ _ h3
          exact h3.symm
      subst hcap
      have w1 : IntKind.i64.wrap ((q : Int) + 1) = (q : Int) + 1 := IntWalk.i64_in _ (by omega)
      have g2 : (0 : Int) ≤ (q : Int) + 1 := by omega
      have g3 : (q : Int) + 1 ≤ (cv : Int) := by omega
      have g4 : ((q : Int) + 1).toNat = q + 1 := by omega
      clear hL hG hv HV hlook hcs hrow hone hold hcs2 hh hsum hlen hv2
      go_enter Try.func21, Try.ntmps21
      go_wp2_with fail
      refine HSUM.out.mono ?_
      rintro e w2 ⟨rfl, hb⟩
      have HB := Lib.hid hb
      clear hb
      go_wp2_with fail
      go_ret
      exact ⟨rfl, HB.out⟩
    · have h0 : v = 0 := by rw [← hv]; unfold balR; rw [if_neg hh]
      subst h0
      have hx2 : x < 0 ∨ (0 ≤ x ∧ (nn : Int) ≤ x) := by unfold hasP at hh; omega
      clear hL hG hv HV hlook hcs hrow hone hold hcs2 hh
      rcases hx2 with hx2 | ⟨hx2, hx3⟩
      · go_enter Try.func21, Try.ntmps21
        go_wp2_with fail
        go_ret
        exact ⟨rfl, Below.refl _ _⟩
      · go_enter Try.func21, Try.ntmps21
        go_wp2_with fail
        go_ret
        exact ⟨rfl, Below.refl _ _⟩
/-- A cell of the ledger's own block is written. -/
theorem led_set (hL : LedW b0 L per opn xs E ce M f w) (opn' : Int) : LedW b0 L per opn' xs E ce M f (w.setCell ⟨L, 1, none⟩ (.int .i64 opn')) := by
  have hLM : M ≠ L := fun e => hL.map.not_cells hL.led e.symm
  refine ⟨?_, hL.map.setCell hLM _, fun a c v ha hc hv => ?_, hL.no, hL.keys, ownsRow_setCell_other hL.own (fun e => own_blkne hL.own hL.led (by decide) e.symm) _, fun x hx => ownsRow_setCell_other (hL.pst x hx) (fun e => own_blkne (hL.pst x hx) hL.led (by decide) e.symm) _, hL.hL, hL.hM⟩
  · have := hL.led.set_ 1 (.int .i64 opn')
    simpa using this
  · obtain ⟨g, e, hg⟩ := hL.row a c v ha hc hv
    exact ⟨g, e, hg.far (blk_ne hg hL.led (by decide)) _⟩
end
def closeE (per : Nat) (opn x : Int) : Int := if hasP per x ∧ x = opn then 0 else 1
def CloseRet (b0 L per M ce : Nat) (opn : Int) (xs : List EV) (E : Option Addr) (f : KF) (x : Int) (w : World) (e : Ending) (w' : World) : Prop :=
  e = .returned (.int .i64 (closeE per opn x)) ∧ (closeE per opn x ≠ 0 ∧ w = w' ∨ closeE per opn x = 0 ∧ LedW b0 L per (opn + 1) xs E ce M f w' ∧ Fr (fun q => q = L) w w')
theorem close_is {b0 L per M ce : Nat} {opn : Int} {xs : List EV} {E : Option Addr} {f : KF} {w : World} (hL : LedW b0 L per opn xs E ce M f w) (hG : LedG per opn xs) (x : Int) :
    Calls Try.prog 28 #[.pointer (some ⟨L, 0, none⟩), .int .i64 x] w (CloseRet b0 L per M ce opn xs E f x w) := by
  have c0 : w.cell? ⟨L, 0, none⟩ = some (.int .i64 (per : Int)) := hL.led.cell 0
  have c1 : w.cell? ⟨L, 1, none⟩ = some (.int .i64 opn) := hL.led.cell 1
  have f1 := hL.led.frozen 1
  have HC0 := Lib.hid c0
  by_cases h1 : hasP per x
  · by_cases h2 : x = opn
    · subst h2
      have he : closeE per x x = 0 := by unfold closeE; rw [if_pos ⟨h1, rfl⟩]
      have HE := Lib.hid he
      have HLS := Lib.hid (led_set hL (x + 1))
      have hx : 0 ≤ x ∧ x < 1000 := by have := hG.per2; unfold hasP at h1; omega
      have w1 : IntKind.i64.wrap (x + 1) = x + 1 := IntWalk.i64_in _ (by omega)
      clear hL hG c0 he
      go_enter Try.func28, Try.ntmps28
      go_wp2_with fail
      refine (has_is L per x _ HC0.out true (by simpa using h1)).mono ?_
      rintro e w1 ⟨rfl, rfl⟩
      go_wp2_with fail
      go_ret
      exact ⟨by rw [HE.out]; rfl, .inr ⟨HE.out, HLS.out, (Fr.refl (fun q => q = L) _).setCell (p := ⟨L, 1, none⟩) (fun _ => rfl) _⟩⟩
    · have he : closeE per opn x = 1 := by unfold closeE; rw [if_neg (fun h => h2 h.2)]
      have HE := Lib.hid he
      have k2 : (x == opn) = false := by simpa using h2
      have k3 : (x != opn) = true := by simpa using h2
      clear hL hG c0 f1 he
      go_enter Try.func28, Try.ntmps28
      go_wp2_with fail
      refine (has_is L per x _ HC0.out true (by simpa using h1)).mono ?_
      rintro e w1 ⟨rfl, rfl⟩
      go_wp2_with fail
      go_ret
      exact ⟨by rw [HE.out]; rfl, .inl ⟨by rw [HE.out]; decide, rfl⟩⟩
  · have he : closeE per opn x = 1 := by unfold closeE; rw [if_neg (fun h => h1 h.1)]
    have HE := Lib.hid he
    clear hL hG c0 f1 he
    go_enter Try.func28, Try.ntmps28
    go_wp2_with fail
    refine (has_is L per x _ HC0.out false (by simpa using h1)).mono ?_
    rintro e w1 ⟨rfl, rfl⟩
    go_wp2_with fail
    go_ret
    exact ⟨by rw [HE.out]; rfl, .inl ⟨by rw [HE.out]; decide, rfl⟩⟩
theorem ledg_close {per : Nat} {opn x : Int} {xs : List EV} (h : LedG per opn xs) (hE : closeE per opn x = 0) : LedG per (opn + 1) xs := by
  unfold closeE at hE
  by_cases c : hasP per x ∧ x = opn
  · have := c.1
    have h2 := c.2
    unfold hasP at this
    have h0 := h.o0
    exact ⟨h.per1, h.per2, by omega, by omega, h.len, h.ok, h.fit⟩
  · rw [if_neg c] at hE; omega
def newE (x : Int) : Int := if 1 ≤ x ∧ x ≤ 240 then 0 else 1
def NewRet (x : Int) (w : World) (e : Ending) (w' : World) : Prop :=
  Below w.heap.size w w' ∧ (newE x ≠ 0 ∧ e = .returned (.tuple #[.pointer none, .int .i64 1]) ∨ newE x = 0 ∧ ∃ L M per : Nat, x = (per : Int) ∧ LedG per 0 [] ∧ e = .returned (.tuple #[.pointer (some ⟨L, 0, none⟩), .int .i64 0]) ∧ LedW w.heap.size L per 0 [] none 0 M (fun _ => none) w')
theorem new_is (x : Int) (w : World) (hx : I64 x) :
    Calls Try.prog 9 #[.int .i64 x] w (NewRet x w) := by
  by_cases h : 1 ≤ x ∧ x ≤ 240
  · obtain ⟨per, rfl⟩ : ∃ per : Nat, x = (per : Int) := ⟨x.toNat, by omega⟩
    have he : newE (per : Int) = 0 := by unfold newE; rw [if_pos h]
    have k1 : ¬ (per : Int) < 1 := by omega
    have k2 : ¬ (240 : Int) < (per : Int) := by omega
    have HE := Lib.hid he
    have hmk := @run_makeMap Try.prog
    clear he
    go_enter Try.func9, Try.ntmps9
    go_wp2_with fail
    go_ret2
    have hm := (MapV.made Try.prog 74 w).alloc (.cells #[.int .i64 (per : Int), .int .i64 0, .slice none 0 0, .map (some w.heap.size)] 63)
    have hb := Blk.new (w.alloc (.map #[] 0)) 63 #[.int .i64 (per : Int), .int .i64 0, .slice none 0 0, .map (some w.heap.size)]
    have e1 : (w.alloc (.map #[] 0)).heap.size = w.heap.size + 1 := by simp
    rw [e1] at hb
    refine ⟨((Below.refl _ _).alloc (Nat.le_refl _) _).alloc (by simp) _, .inr ⟨HE.out, w.heap.size + 1, w.heap.size, per, rfl, ?_, rfl, ?_⟩⟩
    · refine ⟨by omega, by omega, by omega, by omega, by simp, fun y hy => (by cases hy), fun a c _ _ q _ => ?_⟩
      have h1 : movL (ents []) a c q = 0 := rfl
      refine ⟨by rw [h1]; exact ⟨by decide, by decide⟩, ?_⟩
      have h2 : rowL (ents []) per a c = zeros per := by
        unfold rowL zeros
        apply List.ext_getElem
        · simp
        · intro i h3 h4; simp [ents, movL]
      rw [h2, zeros_take]
      exact ⟨by decide, by decide⟩
    · refine ⟨hb, hm, fun a c v _ _ hv => (by cases hv), fun a c _ _ _ => ?_, fun kl v hv => (by cases hv), World.ownsRow_nil _ _ _ _, fun y hy => (by cases hy), by omega, Nat.le_refl _⟩
      unfold rowL zeros
      apply List.ext_getElem
      · simp
      · intro i h3 h4; simp [ents, movL]
  · have he : newE x = 1 := by unfold newE; rw [if_neg h]
    have h2 : x < 1 ∨ (1 ≤ x ∧ 240 < x) := by omega
    have HE := Lib.hid he
    clear he h
    rcases h2 with h2 | ⟨h2, h3⟩
    · go_enter Try.func9, Try.ntmps9
      go_wp2_with fail
      go_ret2
      exact ⟨Below.refl _ _, .inl ⟨by rw [HE.out]; decide, rfl⟩⟩
    · go_enter Try.func9, Try.ntmps9
      go_wp2_with fail
      go_ret2
      exact ⟨Below.refl _ _, .inl ⟨by rw [HE.out]; decide, rfl⟩⟩
end
end Go.Proofs.Ytmijcgcppankcaa.AC
