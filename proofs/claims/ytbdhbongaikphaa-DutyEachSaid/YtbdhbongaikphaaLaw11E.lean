/- The walk of the law DutyEach. -/
import Derived.Test.YtbdhbongaikphaaDutyF
import Derived.Test.YtbdhbongaikphaaDutyCnt
import Derived.Test.YtbdhbongaikphaaBy
import Derived.Test.YtbdhbongaikphaaLnI
import Derived.Deep.DeepCutAuto
namespace Go.Proofs.Ytbdhbongaikphaa.BK
open Go.RowKit Go.Proofs.Ytbdhbongaikphaa.Cents Go.Proofs.Ytbdhbongaikphaa.DU Go.Proofs.Ytbdhbongaikphaa.Exact
set_option linter.unusedVariables false
set_option linter.unusedSimpArgs false

/-- Two rows of one's own, apart. -/
structure TwoR (b : Nat) (vA vU : Value) (LA LU : List Int) (w : World) : Prop where
  a : w.ownsRow b 2 1 vA LA.length (ints LA)
  u : w.ownsRow b 2 1 vU LU.length (ints LU)
  ap : ∀ q, vA.ownBlock = some q → vU.ownBlock ≠ some q
section
variable {b : Nat} {vA vU : Value} {LA LU : List Int} {w w' : World}
theorem TwoR.symm (h : TwoR b vA vU LA LU w) : TwoR b vU vA LU LA w := ⟨h.u, h.a, fun q h1 h2 => h.ap q h2 h1⟩
theorem TwoR.later (h : TwoR b vA vU LA LU w) (hb : Below w.heap.size w w') : TwoR b vA vU LA LU w' := ⟨own_blw h.a hb, own_blw h.u hb, h.ap⟩
theorem TwoR.nil (b : Nat) (w : World) : TwoR b (.slice none 0 0) (.slice none 0 0) [] [] w := ⟨World.ownsRow_nil _ _ _ _, World.ownsRow_nil _ _ _ _, fun q h => by cases h⟩
theorem TwoR.put {g cap : Nat} {x : Int} (h : TwoR b vA vU LA LU w) (hg : w.grownBy w' vA.ownBlock) (ho : w'.ownsRow b 2 1 (.slice (some ⟨g, 0, none⟩) (LA.length + 1) cap) (LA.length + 1) (ints LA ++ [.int .i64 x])) (hat : vA.ownBlock = some g ∨ g = w.heap.size) :
    TwoR b (.slice (some ⟨g, 0, none⟩) (LA.length + 1) cap) vU (LA ++ [x]) LU w' := by
  refine ⟨?_, h.u.kept hg ?_, fun q hq hq2 => ?_⟩
  · rw [List.length_append, ints_snocD]
    exact ho
  · cases hq : vU.ownBlock with
    | none => exact .inl rfl
    | some q => exact .inr (fun e => h.ap q e.symm hq)
  · injection hq with hq
    subst hq
    rcases hat with c | c
    · exact h.ap g c hq2
    · have := (h.u.lt g hq2).2
      omega
end
theorem TwoR.putN {b n g cap : Nat} {vA vU : Value} {LA LU : List Int} {w w' : World} {x : Int} (hn : LA.length = n) (h : TwoR b vA vU LA LU w) (hg : w.grownBy w' vA.ownBlock) (ho : w'.ownsRow b 2 1 (.slice (some ⟨g, 0, none⟩) (n + 1) cap) (n + 1) (ints LA ++ [.int .i64 x])) (hat : vA.ownBlock = some g ∨ g = w.heap.size) :
    TwoR b (.slice (some ⟨g, 0, none⟩) (n + 1) cap) vU (LA ++ [x]) LU w' := by
  subst hn
  exact h.put hg ho hat
theorem TwoR.aN {b n : Nat} {vA vU : Value} {LA LU : List Int} {w : World} (h : TwoR b vA vU LA LU w) (hn : LA.length = n) : w.ownsRow b 2 1 vA n (ints LA) := by
  subst hn; exact h.a
theorem new_far {b : Nat} {vA vU : Value} {LA LU : List Int} {w : World} (h : TwoR b vA vU LA LU w) {q : Nat} (hq : w.heap.size ≤ q) : some q ≠ vA.ownBlock := fun e => by
  have := (h.a.lt q e.symm).2
  omega
theorem lit_next (w : World) (o : Obj) (t : TypeId) (cs : Array Value) : Blk ((w.alloc o).alloc (.cells cs t)) (w.heap.size + 1) t cs := by
  have := Blk.new (w.alloc o) t cs
  simpa using this
/-- In the loop over the obligations: how often each line was met; sums so far. -/
structure EW (w0 : World) (G n : Nat) (P : List Nat) (vA vU : Value) (LA LU : List Int) (w : World) : Prop where
  sn : Blk w G 3 (ints (cnt n P)).toArray
  hG : w0.heap.size ≤ G
  tw : TwoR w0.heap.size vA vU LA LU w
  be : Below w0.heap.size w0 w
section
variable {w0 w w' : World} {G n a : Nat} {P : List Nat} {vA vU : Value} {LA LU : List Int}
theorem EW.later (h : EW w0 G n P vA vU LA LU w) (hb : Below w.heap.size w w') : EW w0 G n P vA vU LA LU w' := ⟨h.sn.below hb h.sn.lt, h.hG, h.tw.later hb, h.be.trans (hb.mono h.be.size)⟩
theorem EW.cell (h : EW w0 G n P vA vU LA LU w) (ha : a < n) : w.cell? ⟨G, a, none⟩ = some (.int .i64 ((cnt n P).getD a 0)) := by
  rw [h.sn.cell a]
  simp [ints, List.getD_eq_getElem?_getD, cnt_len, ha, List.getElem?_eq_getElem]
theorem EW.inc (h : EW w0 G n P vA vU LA LU w) (ha : a < n) : EW w0 G n (P ++ [a]) vA vU LA LU (w.setCell ⟨G, a, none⟩ (.int .i64 ((cnt n P).getD a 0 + 1))) := by
  refine ⟨?_, h.hG, ⟨?_, ?_, h.tw.ap⟩, h.be.setCell h.hG _⟩
  · rw [cnt_snoc ha, show (ints ((cnt n P).set a ((cnt n P).getD a 0 + 1))).toArray = (ints (cnt n P)).toArray.setIfInBounds a (.int .i64 ((cnt n P).getD a 0 + 1)) by simp [ints, List.map_set]]
    exact h.sn.set_ a _
  · exact own_fr h.tw.a ((Fr.refl (fun q => q = G) w).setCell (fun _ => rfl) _) (fun k hk e => own_box h.tw.a h.sn (by decide) (by rw [hk, e]))
  · exact own_fr h.tw.u ((Fr.refl (fun q => q = G) w).setCell (fun _ => rfl) _) (fun k hk e => own_box h.tw.u h.sn (by decide) (by rw [hk, e]))
end
set_option maxHeartbeats 1000000 in
set_option maxRecDepth 100000 in
theorem each_large (A B : Option Addr) (n m c d : Nat) (day : Int) (w : World) (h : 50 < n ∨ 30 < m) :
    Calls Try.prog 4 #[.slice A n c, .slice B m d, .int .i64 day] w fun e w' => e = .returned (.bool true) ∧ Below w.heap.size w w' := by
  by_cases h1 : 50 < n
  · have h2 : (50 : Int) < (n : Int) := by omega
    clear h
    go_enter Try.func4, Try.ntmps4
    go_wp2_with fail
    refine (awake11 _).mono ?_
    rintro e w1 ⟨rfl, hb⟩
    have HB := Lib.hid hb
    clear hb
    go_wp2_with fail
    go_ret
    exact ⟨rfl, HB.out⟩
  · have h2 : ¬ (50 : Int) < (n : Int) := by omega
    have h3 : (30 : Int) < (m : Int) := by omega
    clear h
    go_enter Try.func4, Try.ntmps4
    go_wp2_with fail
    refine (awake11 _).mono ?_
    rintro e w1 ⟨rfl, hb⟩
    have HB := Lib.hid hb
    clear hb
    go_wp2_with fail
    go_ret
    exact ⟨rfl, HB.out⟩
set_option maxHeartbeats 1000000 in
set_option maxRecDepth 100000 in
theorem each_nobook (A B : Option Addr) (its : List It) (m c d : Nat) (day : Int) (w : World) (hr : Row w 0 A (icells its)) (h50 : ¬ 50 < its.length) (h30 : ¬ 30 < m) (hE : newE its ≠ 0) :
    Calls Try.prog 4 #[.slice A its.length c, .slice B m d, .int .i64 day] w fun e w' => e = .returned (.bool true) ∧ Below w.heap.size w w' := by
  have HN := Lib.hid (fun w1 (h : Row w1 0 A (icells its)) => new_bad A its c w1 h (by omega) _ rfl hE)
  have HR := Lib.hid hr
  obtain ⟨E, hEE⟩ : ∃ E, newE its = E := ⟨_, rfl⟩
  rw [hEE] at HN
  generalize its.length = n at *
  have h2 : ¬ (50 : Int) < (n : Int) := by omega
  have h3 : ¬ (30 : Int) < (m : Int) := by omega
  clear hE hr hEE
  go_enter Try.func4, Try.ntmps4
  go_wp2_with fail
  refine (awake11 _).mono ?_
  rintro e w1 ⟨rfl, hb⟩
  have HB := Lib.hid hb
  clear hb
  go_wp2_with fail
  refine (HN.out _ (HR.out.below HB.out)).mono ?_
  rintro e w3 ⟨rfl, hb⟩
  have HB := Lib.hid (HB.out.trans (hb.mono HB.out.size))
  clear hb
  go_wp2_with fail
  go_ret
  exact ⟨rfl, HB.out⟩
/-- What the law has of its parameters. -/
structure EP (its : List It) (ls : List Ln) (A B : Option Addr) (w : World) : Prop where
  hE : newE its = 0
  hI : ∀ x ∈ its, ItI x
  h30 : ls.length ≤ 30
  r1 : Row w 0 A (icells its)
  r2 : Row w 0 B (lcells ls)
  u : ∀ i, i < ls.length → I64 (lnAt ls i).units
theorem EP.len {its : List It} {ls : List Ln} {A B : Option Addr} {w : World} (h : EP its ls A B w) : its.length ≤ 40 := by
  have := h.hE
  unfold newE at this
  split at this
  · omega
  · omega
set_option maxHeartbeats 1000000 in
set_option maxRecDepth 100000 in
theorem each_err (A B : Option Addr) (its : List It) (ls : List Ln) (c d : Nat) (day : Int) (w : World) (h : EP its ls A B w) (hF : findE its (rows0 its) day ls ≠ 0) :
    Calls Try.prog 4 #[.slice A its.length c, .slice B ls.length d, .int .i64 day] w fun e w' => e = .returned (.bool true) ∧ Below w.heap.size w w' := by
  have hlen := h.len
  have h30 := h.h30
  have HN := Lib.hid (fun w1 (hr : Row w1 0 A (icells its)) => new_ok A its c w1 hr h.hE)
  have HFI := Lib.hid (fun S b w1 hbk (hr : Row w1 0 B (lcells ls)) => dfind_any S its B ls d b day w1 h.hE h.hI hbk hr (by omega) h.u)
  have HR1 := Lib.hid h.r1
  have HR2 := Lib.hid h.r2
  have HFL := Lib.hid (show findL its (rows0 its) day ls = [] by unfold findL; rw [if_neg hF])
  obtain ⟨E, hEE⟩ : ∃ E, findE its (rows0 its) day ls = E := ⟨_, rfl⟩
  have HEE := Lib.hid hEE
  rw [hEE] at hF
  have hne : (E == 0) = false := by simpa using hF
  generalize its.length = n at *
  generalize ls.length = m at *
  have h2 : ¬ (50 : Int) < (n : Int) := by omega
  have h3 : ¬ (30 : Int) < (m : Int) := by omega
  clear h hEE
  go_enter Try.func4, Try.ntmps4
  go_wp2_with fail
  refine (awake11 _).mono ?_
  rintro e w1 ⟨rfl, hb⟩
  have HB := Lib.hid hb
  clear hb
  go_wp2_with fail
  refine (HN.out _ (HR1.out.below HB.out)).mono ?_
  rintro e w3 ⟨S, b, rfl, hbk, hb, _⟩
  have HB := Lib.hid (HB.out.trans (hb.mono HB.out.size))
  have HBK := Lib.hid hbk
  clear hb hbk
  go_wp2_with fail
  refine (HFI.out S b w3 HBK.out (HR2.out.below HB.out)).mono ?_
  rintro e w4 ⟨v, xs, rfl, hd, hx, hb⟩
  have HB := Lib.hid (HB.out.trans (hb.mono HB.out.size))
  rw [HFL.out] at hx
  have hxl : xs = [] := by cases xs with | nil => rfl | cons => cases hx
  subst hxl
  obtain ⟨AD, cD, rfl, _⟩ := hd.sl
  rw [HEE.out]
  clear hd hx hb
  go_wp2_with fail
  go_ret
  exact ⟨rfl, HB.out⟩
section
variable {f : Nat → LnD} {n t s a : Nat}
theorem dus_head (ht : t < (dus f n).length) : ∃ tl, (dus f n)[t].ls = ((firsts f n)[t]'(by rw [← dus_len]; exact ht)) :: tl := by
  have ht2 : t < (firsts f n).length := by rw [← dus_len]; exact ht
  rw [dus_at ht2 ht, duAt_ls]
  have hm := mem_firsts (f := f).1 (List.getElem_mem ht2)
  exact grp_head hm.2 hm.1
theorem dus_lines (ht : t < (dus f n).length) : ∀ a ∈ (dus f n)[t].ls, a < n ∧ (dus f n)[t].first ≤ (f a).first ∧ (f a).last ≤ (dus f n)[t].last := by
  have ht2 : t < (firsts f n).length := by rw [← dus_len]; exact ht
  rw [dus_at ht2 ht, duAt_ls]
  intro a ha
  exact ⟨(mem_grp.1 ha).1, duAt_days f n _ a ha⟩
theorem flat_sub (l : List Du) (ht : t < l.length) (s : Nat) : ((flatL (l.take t) ++ l[t].ls.take s)).Sublist (flatL l) := by
  have h1 : flatL l = flatL (l.take (t + 1)) ++ flatL (l.drop (t + 1)) := by
    unfold flatL
    rw [← List.flatMap_append, List.take_append_drop]
  rw [h1, flatL_take ht]
  refine List.Sublist.trans ?_ (List.sublist_append_left _ _)
  exact List.Sublist.append (List.Sublist.refl _) (List.take_sublist _ _)
theorem cnt_small (ht : t < (dus f n).length) (s : Nat) (ha : a < n) : 0 ≤ (cnt n (flatL ((dus f n).take t) ++ (dus f n)[t].ls.take s)).getD a 0 ∧ (cnt n (flatL ((dus f n).take t) ++ (dus f n)[t].ls.take s)).getD a 0 ≤ 1 := by
  rw [cnt_at ha]
  have h1 := (flat_sub (dus f n) ht s).count_le a
  have h2 := cnt_all (f := f) ha
  rw [cnt_at ha] at h2
  omega
end
def alL (l : List Du) : List Int := l.map (·.alone)
def unL (l : List Du) : List Int := l.map (·.units)
theorem alL_take {l : List Du} {t : Nat} (h : t < l.length) : alL (l.take (t + 1)) = alL (l.take t) ++ [l[t].alone] := by
  unfold alL; rw [List.take_succ_eq_append_getElem h, List.map_append]; rfl
theorem unL_take {l : List Du} {t : Nat} (h : t < l.length) : unL (l.take (t + 1)) = unL (l.take t) ++ [l[t].units] := by
  unfold unL; rw [List.take_succ_eq_append_getElem h, List.map_append]; rfl
theorem find_zero {its : List It} {R : List PRow} {day : Int} {ls : List Ln} (h : findE its R day ls = 0) : ¬ day < 0 ∧ checkE its.length ls = 0 ∧ okAll (fL its R day ls) ls.length := by
  unfold findE at h
  by_cases h1 : day < 0
  · rw [if_pos h1] at h; omega
  · rw [if_neg h1] at h
    by_cases h2 : checkE its.length ls = 0
    · rw [if_pos h2] at h
      by_cases h3 : okAll (fL its R day ls) ls.length
      · exact ⟨h1, h2, h3⟩
      · rw [if_neg h3] at h; omega
    · rw [if_neg h2] at h; exact absurd h h2
def alN (f : Nat → LnD) (k : Nat) : List Int := (List.range k).map (fun i => (f i).alone)
def unN (f : Nat → LnD) (k : Nat) : List Int := (List.range k).map (fun i => (f i).units)
theorem alN_succ (f : Nat → LnD) (k : Nat) : alN f (k + 1) = alN f k ++ [(f k).alone] := by simp [alN, List.range_succ]
theorem unN_succ (f : Nat → LnD) (k : Nat) : unN f (k + 1) = unN f k ++ [(f k).units] := by simp [unN, List.range_succ]
theorem alN_len (f : Nat → LnD) (k : Nat) : (alN f k).length = k := by simp [alN]
theorem unN_len (f : Nat → LnD) (k : Nat) : (unN f k).length = k := by simp [unN]
theorem sum_as {b n : Nat} {P : Option Addr} {c : Nat} {xs : List Int} {w w' : World} (h : w.ownsRow b 2 1 (.slice P n c) n (ints xs)) (hb : Below w.heap.size w w') (hn : xs.length = n) (hl : n ≤ 1000) (hI : ∀ x ∈ xs, I64 x) (u v : Int) (hs : sumN xs.sum = u ∧ sumE xs.sum = v) :
    Calls Try.prog 15 #[.slice P n c] w' fun e w'' => e = .returned (.tuple #[.int .i64 u, .int .i64 v]) ∧ Below w'.heap.size w' w'' := by
  subst hn
  obtain ⟨rfl, rfl⟩ := hs
  exact sum_any P xs c w' hI (((Row.of_own h (by decide)).weak (Nat.zero_le _)).below hb) (by omega)
set_option maxHeartbeats 8000000 in
set_option maxRecDepth 100000 in
theorem each_go (A B : Option Addr) (its : List It) (ls : List Ln) (c d : Nat) (day : Int) (w : World) (h : EP its ls A B w) (hF : findE its (rows0 its) day ls = 0) :
    Calls Try.prog 4 #[.slice A its.length c, .slice B ls.length d, .int .i64 day] w fun e w' => e = .returned (.bool true) ∧ Below w.heap.size w w' := by
  have hlen := h.len
  have h30 := h.h30
  have HN := Lib.hid (fun w1 (hr : Row w1 0 A (icells its)) => new_ok A its c w1 hr h.hE)
  have HFI := Lib.hid (fun S b w1 hbk (hr : Row w1 0 B (lcells ls)) => dfind_any S its B ls d b day w1 h.hE h.hI hbk hr (by omega) h.u)
  have HR1 := Lib.hid h.r1
  have HR2 := Lib.hid h.r2
  have HFL := Lib.hid (show findL its (rows0 its) day ls = dus (fL its (rows0 its) day ls) ls.length by unfold findL; rw [if_pos hF])
  have HFE := Lib.hid hF
  obtain ⟨f, hf⟩ : ∃ f, fL its (rows0 its) day ls = f := ⟨_, rfl⟩
  have HF := Lib.hid hf
  rw [hf] at HFL
  obtain ⟨n, hn⟩ : ∃ n, its.length = n := ⟨_, rfl⟩
  obtain ⟨m, hm⟩ : ∃ m, ls.length = m := ⟨_, rfl⟩
  have HM := Lib.hid hm
  rw [hn] at hlen HN ⊢
  rw [hm] at h30 HFI HFL ⊢
  have h2 : ¬ (50 : Int) < (n : Int) := by omega
  have h3 : ¬ (30 : Int) < (m : Int) := by omega
  have HP := Lib.hid h
  clear h hF hf hn hm
  go_enter Try.func4, Try.ntmps4
  go_wp2_with fail
  refine (awake11 _).mono ?_
  rintro e w1 ⟨rfl, hb⟩
  have HB := Lib.hid hb
  clear hb
  go_wp2_with fail
  refine (HN.out _ (HR1.out.below HB.out)).mono ?_
  rintro e w3 ⟨S, b, rfl, hbk, hb, _⟩
  have HB := Lib.hid (HB.out.trans (hb.mono HB.out.size))
  have HBK := Lib.hid hbk
  clear hb hbk
  go_wp2_with fail
  refine (HFI.out S b w3 HBK.out (HR2.out.below HB.out)).mono ?_
  rintro e w4 ⟨v, xs, rfl, hd, hx, hb⟩
  have HB4 := Lib.hid (HB.out.trans (hb.mono HB.out.size))
  have HBK4 := Lib.hid (HBK.out.later hb)
  have HR4 := Lib.hid (HR2.out.below HB4.out)
  rw [HFL.out] at hx
  rw [HFE.out]
  obtain ⟨AD, cD, rfl, _⟩ := hd.sl
  obtain ⟨N, hN⟩ : ∃ N, xs.length = N := ⟨_, rfl⟩
  have HDR := Lib.hid (hd.read rfl)
  have HX := Lib.hid hx
  have HXN := Lib.hid hN
  have HDN := Lib.hid (show (dus f m).length = N by rw [← hx, List.length_map]; exact hN)
  have hN30 : N ≤ 30 := by rw [← hN, ← List.length_map (f := (·.d)), hx, dus_len]; have := firsts_len f m; omega
  rw [hN]
  clear hd hx hb HB HBK hN
  go_wp2_with fail
  rw [made_zero w4 m (by omega)]
  have hst : EW w4 w4.heap.size m [] (.slice none 0 0) (.slice none 0 0) [] [] (w4.alloc (.cells (ints (List.replicate m 0)).toArray 3)) :=
    ⟨by rw [cnt_nil]; exact Blk.new _ _ _, Nat.le_refl _, TwoR.nil _ _, alloc1 _ _⟩
  have HST := Lib.hid hst
  clear hst
  obtain ⟨w5, hw5⟩ : ∃ w5, w4.alloc (.cells (ints (List.replicate m 0)).toArray 3) = w5 := ⟨_, rfl⟩
  rw [hw5] at HST ⊢
  obtain ⟨G, hG⟩ : ∃ G, w4.heap.size = G := ⟨_, rfl⟩
  have hst2 := HST.out
  have HST2 := Lib.hid (show EW w4 G m [] (.slice none 0 0) (.slice none 0 0) [] [] w5 from hG ▸ hst2)
  rw [hG]
  clear hw5 hG HST hst2
  go_wp2_with fail
  go_loopw [12, 13, 15, 67] (fun vl vA vU v wr => ∃ (t : Nat) (la : Int) (PA : Option Addr) (cA : Nat) (PU : Option Addr) (cU : Nat), vl = .int .i64 la ∧ vA = .slice PA t cA ∧ vU = .slice PU t cU ∧ v = .int .i64 (t : Int) ∧ t ≤ N ∧ (∀ t' (h' : t' < (firsts f m).length), t ≤ t' → la < (((firsts f m)[t'] : Nat) : Int)) ∧ EW w4 G m (flatL ((dus f m).take t)) vA vU (alL ((dus f m).take t)) (unL ((dus f m).take t)) wr) (fun _ _ _ v _ => N - (intOf v).toNat)
  case atStart => exact ⟨0, -1, none, 0, none, 0, rfl, rfl, rfl, rfl, by omega, fun t' h' _ => by omega, HST2.out⟩
  case round =>
    clear HST2
    obtain ⟨t, la, PA, cA, PU, cU, rfl, rfl, rfl, rfl, ht, hla, hE⟩ := hrel
    have HE := Lib.hid hE
    have HLA := Lib.hid hla
    have t0 : (0 : Int) ≤ (t : Int) := Int.natCast_nonneg _
    by_cases hlt : t < N
    · have htx : t < xs.length := by rw [HXN.out]; exact hlt
      have htd : t < (dus f m).length := by rw [HDN.out]; exact hlt
      obtain ⟨ad, P, cp, rfl, v0, v1, v2, v3, v4, v5, xr⟩ := HDR.out.at_ htx
      have x0 := cell_below' hE.be v0
      have x1 := cell_below' hE.be v1
      have x2 := cell_below' hE.be v2
      have x3 := cell_below' hE.be v3
      have x4 := cell_below' hE.be v4
      have x5 := cell_below' hE.be v5
      clear v0 v1 v2 v3 v4 v5
      have hxd : xs[t].d = (dus f m)[t] := by
        have h1 : (xs.map (·.d))[t]'(by simpa using htx) = (dus f m)[t] := by simp [HX.out]
        simpa using h1
      rw [hxd] at x0 x1 x2 x3 x4 x5 xr
      have HLN := Lib.hid (dus_lines htd)
      obtain ⟨tl, htl⟩ := dus_head htd
      have hfl : t < (firsts f m).length := by rw [← dus_len]; exact htd
      have HLA2 := Lib.hid (show ∀ t' (h' : t' < (firsts f m).length), t + 1 ≤ t' → (((firsts f m)[t] : Nat) : Int) < (((firsts f m)[t'] : Nat) : Int) from fun t' h' htt => by
        have := List.pairwise_iff_getElem.1 (firsts_sorted f m) t t' hfl h' htt
        omega)
      have hlt0 := hla t hfl (Nat.le_refl _)
      obtain ⟨pd, rfl, zz⟩ := int_at xr (j := 0) (by rw [htl]; simp [nats])
      have z0 := cell_below' hE.be zz
      clear zz
      rw [show (nats (dus f m)[t].ls).getD 0 0 = (((firsts f m)[t] : Nat) : Int) by rw [htl]; simp [nats], add_zero_] at z0
      have HCS := Lib.hid (fun s a (ha : a < m) => cnt_small htd s ha)
      have HFT := Lib.hid (flatL_take htd)
      have HAT := Lib.hid (alL_take htd)
      have HUT := Lib.hid (unL_take htd)
      have hL1 : 1 ≤ (dus f m)[t].ls.length := by rw [htl]; simp
      have hL2 : (dus f m)[t].ls.length ≤ 30 := by rw [dus_at hfl htd, duAt_ls]; have := grp_len f m ((firsts f m)[t]); omega
      obtain ⟨h0, hh0⟩ : ∃ h0 : Nat, (firsts f m)[t] = h0 := ⟨_, rfl⟩
      rw [hh0] at z0 hlt0 HLA2
      generalize (dus f m)[t] = dt at *
      obtain ⟨dl, da, du, dm, df, dd⟩ := dt
      dsimp only at x0 x1 x2 x3 x4 x5 xr HLN HCS HFT HAT HUT hL1 hL2
      have HXR := Lib.hid xr
      obtain ⟨L, hL⟩ : ∃ L, dl.length = L := ⟨_, rfl⟩
      have HL := Lib.hid hL
      rw [hL] at x0 hL1 hL2
      have t1' : (t : Int) < (N : Int) := by omega
      have HEA := Lib.hid (hE.later (alloc1 wr (.cells #[.slice (some pd) L cp, .int .i64 da, .int .i64 du, .int .i64 dm, .int .i64 df, .int .i64 dd] 43)))
      have HQB := Lib.hid (Blk.new wr 43 #[.slice (some pd) L cp, .int .i64 da, .int .i64 du, .int .i64 dm, .int .i64 df, .int .i64 dd])
      have g1 : ¬ ((L : Int) = 0) := by omega
      have g1b : ((L : Int) == 0) = false := by simpa using g1
      have g1c : ¬ L = 0 := by omega
      have g2 : ¬ ((h0 : Int) ≤ la) := by omega
      have g3 : (0 : Int) < (L : Int) := by omega
      have zlt := cell_lt z0
      clear hE hla xr hxd htl hh0 hL
      go_wp2_with fail
      obtain ⟨wo, hwo⟩ : ∃ wo, wr.alloc (.cells #[.slice (some pd) L cp, .int .i64 da, .int .i64 du, .int .i64 dm, .int .i64 df, .int .i64 dd] 43) = wo := ⟨_, rfl⟩
      obtain ⟨Q, hQ⟩ : ∃ Q, wr.heap.size = Q := ⟨_, rfl⟩
      rw [hwo] at HEA HQB ⊢
      rw [hQ] at HQB ⊢
      clear hwo hQ x0 x1 x2 x3 x4 x5 z0 zlt HE
      go_loopw [90] (fun v wx => ∃ s : Nat, v = .int .i64 (s : Int) ∧ s ≤ L ∧ EW w4 G m (flatL ((dus f m).take t) ++ dl.take s) (.slice PA t cA) (.slice PU t cU) (alL ((dus f m).take t)) (unL ((dus f m).take t)) wx ∧ Blk wx Q 43 #[.slice (some pd) L cp, .int .i64 da, .int .i64 du, .int .i64 dm, .int .i64 df, .int .i64 dd]) (fun v _ => L - (intOf v).toNat)
      case atStart => exact ⟨0, rfl, by omega, by rw [List.take_zero, List.append_nil]; exact HEA.out, HQB.out⟩
      case round =>
        clear HEA HQB
        obtain ⟨s, rfl, hs, hE, hQb⟩ := hrel
        have HE := Lib.hid hE
        have HQB := Lib.hid hQb
        have s0 : (0 : Int) ≤ (s : Int) := Int.natCast_nonneg _
        have q0 : wr.cell? ⟨Q, 0, none⟩ = some (.slice (some pd) L cp) := hQb.cell 0
        have q1 : wr.cell? ⟨Q, 1, none⟩ = some (.int .i64 da) := hQb.cell 1
        have q2 : wr.cell? ⟨Q, 2, none⟩ = some (.int .i64 du) := hQb.cell 2
        have q4 : wr.cell? ⟨Q, 4, none⟩ = some (.int .i64 df) := hQb.cell 4
        have q5 : wr.cell? ⟨Q, 5, none⟩ = some (.int .i64 dd) := hQb.cell 5
        by_cases hsl : s < L
        · have hsd : s < dl.length := by rw [HL.out]; exact hsl
          obtain ⟨pd2, hpd, z0⟩ := int_at (HXR.out.below hE.be) (j := s) (by rw [nats_len]; exact hsd)
          cases hpd
          obtain ⟨a, ha⟩ : ∃ a, dl[s] = a := ⟨_, rfl⟩
          rw [show (nats dl).getD s 0 = ((a : Nat) : Int) by rw [← ha]; simp [nats, List.getD_eq_getElem?_getD, hsd]] at z0
          obtain ⟨ha1, ha2, ha3⟩ := HLN.out a (by rw [← ha]; exact List.getElem_mem hsd)
          have HTS := Lib.hid (show dl.take (s + 1) = dl.take s ++ [a] by rw [← ha, List.take_succ_eq_append_getElem hsd])
          obtain ⟨bd, hB, y0, y1, y2, y3, y4⟩ := l_cells (HR4.out.below hE.be) (j := a) (by rw [HM.out]; exact ha1)
          subst hB
          rw [show (f a).first = (lnAt ls a).first by rw [← HF.out]; rfl] at ha2
          rw [show (f a).last = (lnAt ls a).last by rw [← HF.out]; rfl] at ha3
          have hcv := HCS.out s a ha1
          have hcell := hE.cell ha1
          have hfz := hE.sn.frozen a
          obtain ⟨cv, hcv2⟩ : ∃ cv, (cnt m (flatL ((dus f m).take t) ++ dl.take s)).getD a 0 = cv := ⟨_, rfl⟩
          have HCV := Lib.hid hcv2
          rw [hcv2] at hcv hcell
          obtain ⟨hc0, hc1⟩ := hcv
          generalize lnAt ls a = ln at *
          obtain ⟨u1, u2, u3, u4, u5⟩ := ln
          dsimp only at y0 y1 y2 y3 y4 ha2 ha3
          have s1 : (s : Int) < (L : Int) := by omega
          have a0 : (0 : Int) ≤ (a : Int) := Int.natCast_nonneg _
          have a1 : ¬ (a : Int) < 0 := by omega
          have a2 : (a : Int) < (m : Int) := by omega
          have a3 : ¬ (m : Int) ≤ (a : Int) := by omega
          have a4 : ¬ u4 < df := by omega
          have a5 : ¬ dd < u5 := by omega
          have d1 : decide ((a : Int) < 0) = false := by rw [decide_eq_false_iff_not]; omega
          have d2 : decide ((m : Int) ≤ (a : Int)) = false := by rw [decide_eq_false_iff_not]; omega
          have d2' : decide (m ≤ a) = false := by rw [decide_eq_false_iff_not]; omega
          have d3 : decide (u4 < df) = false := by rw [decide_eq_false_iff_not]; omega
          have d4 : decide (dd < u5) = false := by rw [decide_eq_false_iff_not]; omega
          have hQG : ¬ Q = G := fun e => by
            subst e
            have h1 : wr.heap[Q]? = _ := hQb
            have h2 : wr.heap[Q]? = _ := hE.sn
            rw [h1] at h2
            injection h2 with h2
            injection h2 with _ h2
            exact absurd h2 (by decide)
          clear hE hQb hcv2 ha
          go_wp2_with fail
          go_quiet (fail)
          have HE2 := Lib.hid (HE.out.later ((Exact.Later.refl wr).drewN nq))
          have HQ2 := Lib.hid (HQB.out.drewN nq)
          have k1 : (wr.drewN nq).cell? ⟨G, a, none⟩ = some (.int .i64 cv) := hcell
          have k2 : (wr.drewN nq).frozen? ⟨G, a, none⟩ = false := hfz
          obtain ⟨wq, hwq⟩ : ∃ wq, wr.drewN nq = wq := ⟨_, rfl⟩
          rw [hwq] at HE2 HQ2 k1 k2 ⊢
          clear hwq z0 y0 y1 y2 y3 y4 q0 q1 q2 q4 q5 hcell hfz HE HQB
          have HI := Lib.hid (HE2.out.inc ha1)
          rw [HCV.out] at HI
          have HQ3 := Lib.hid (HQ2.out.far (p := ⟨G, a, none⟩) (show Q ≠ G from hQG) (.int .i64 (cv + 1)))
          go_wp2_with fail
          go_roundw
          case rel => exact ⟨s + 1, by go_num, by omega, by rw [HTS.out, ← List.append_assoc]; exact HI.out, HQ3.out⟩
          case measure => simp only [intOf]; omega
        · obtain rfl : s = L := by omega
          have HE2 := Lib.hid (show EW w4 G m (flatL ((dus f m).take (t + 1))) (.slice PA t cA) (.slice PU t cU) (alL ((dus f m).take t)) (unL ((dus f m).take t)) wr from by
            have := HE.out
            rw [List.take_of_length_le (show dl.length ≤ s by rw [HL.out]; exact Nat.le_refl _)] at this
            rw [HFT.out]
            exact this)
          have hla : (alL ((dus f m).take t)).length = t := by simp [alL, HDN.out]; omega
          have hlu : (unL ((dus f m).take t)).length = t := by simp [unL, HDN.out]; omega
          have HLA0 := Lib.hid hla
          have HLU0 := Lib.hid hlu
          have HW0 := Lib.hid (HE2.out.later (Later.refl wr).drew)
          have HD0 := Lib.hid HQB.out.drew
          have HV1 := Lib.hid (HW0.out.later (alloc1 wr.drew (.cells #[.int .i64 da] 2)))
          have HD1 := Lib.hid (HD0.out.alloc (.cells #[.int .i64 da] 2))
          have HA1 := Lib.hid (show Blk (wr.drew.alloc (.cells #[.int .i64 da] 2)) wr.heap.size 2 #[.int .i64 da] from Blk.new wr.drew _ _)
          have HV2 := Lib.hid (HV1.out.later (alloc1 _ (.cells #[.int .i64 du] 2)))
          have HD2 := Lib.hid (HD1.out.alloc (.cells #[.int .i64 du] 2))
          have HA2 := Lib.hid (HA1.out.alloc (.cells #[.int .i64 du] 2))
          have HU2 := Lib.hid (show Blk ((wr.drew.alloc (.cells #[.int .i64 da] 2)).alloc (.cells #[.int .i64 du] 2)) (wr.heap.size + 1) 2 #[.int .i64 du] from lit_next wr.drew _ _ _)
          have HV3 := Lib.hid ((HW0.out.later (alloc1 wr.drew (.cells #[.int .i64 du] 2))).later (alloc1 _ (.cells #[.int .i64 da] 2)))
          have HD3 := Lib.hid ((HD0.out.alloc (.cells #[.int .i64 du] 2)).alloc (.cells #[.int .i64 da] 2))
          have HU3 := Lib.hid (show Blk ((wr.drew.alloc (.cells #[.int .i64 du] 2)).alloc (.cells #[.int .i64 da] 2)) wr.heap.size 2 #[.int .i64 du] from (Blk.new wr.drew _ _).alloc _)
          have HA3 := Lib.hid (show Blk ((wr.drew.alloc (.cells #[.int .i64 du] 2)).alloc (.cells #[.int .i64 da] 2)) (wr.heap.size + 1) 2 #[.int .i64 da] from lit_next wr.drew _ _ _)
          have hb1 : (t + 1) * 8 ≤ 140737488355328 := by omega
          have hb2 : t + 1 ≤ maxLen := by unfold maxLen; omega
          clear hla hlu HE q0 q4 q5
          go_wp2_with fail
          go_region_held3 (fun V => V.cell? ⟨Q, 1, none⟩ = some (.int .i64 da) ∧ V.cell? ⟨Q, 2, none⟩ = some (.int .i64 du))
            (first | (go_split_ands; exact ⟨b1, b2⟩) | (go_keep; done))
            ((first
              | (refine step_app E_i64d rfl (.tmp 129) (.tmp 132) rfl rfl (HV1.out.tw.aN HLA0.out) ⟨wr.heap.size, 0, none⟩ 1 1 [.int .i64 da] rfl rfl (World.news_of_block HA1.out) (by simp [Value.oneCell']) hb1 hb2 HV1.out.be.size (by decide) _ rfl ?_; intro g5 cap5 w5 ho5 hg5 hat5 _; have HT5 := Lib.hid (TwoR.putN HLA0.out HV1.out.tw hg5 ho5 hat5); have HS5 := Lib.hid (HV1.out.sn.grown hg5 (own_box HV1.out.tw.a HV1.out.sn (by decide))); have HB5 := Lib.hid (HV1.out.be.grown hg5 HV1.out.be.size (fun q hq => (HV1.out.tw.a.lt q hq).1)); have hd5 := HD1.out.grown hg5 (own_box HV1.out.tw.a HD1.out (by decide)); have HD5 := Lib.hid hd5; have b1 : w5.cell? ⟨Q, 1, none⟩ = some (.int .i64 da) := hd5.cell 1; have b2 : w5.cell? ⟨Q, 2, none⟩ = some (.int .i64 du) := hd5.cell 2; clear ho5 hg5 hat5 hd5)
              | (refine step_app E_i64d rfl (.tmp 129) (.tmp 132) rfl rfl (HV2.out.tw.aN HLA0.out) ⟨wr.heap.size, 0, none⟩ 1 1 [.int .i64 da] rfl rfl (World.news_of_block HA2.out) (by simp [Value.oneCell']) hb1 hb2 HV2.out.be.size (by decide) _ rfl ?_; intro g5 cap5 w5 ho5 hg5 hat5 _; have HT5 := Lib.hid (TwoR.putN HLA0.out HV2.out.tw hg5 ho5 hat5); have HU5 := Lib.hid (HU2.out.grown hg5 (new_far HW0.out.tw (Nat.le_succ _))); have HS5 := Lib.hid (HV2.out.sn.grown hg5 (own_box HV2.out.tw.a HV2.out.sn (by decide))); have HB5 := Lib.hid (HV2.out.be.grown hg5 HV2.out.be.size (fun q hq => (HV2.out.tw.a.lt q hq).1)); have hd5 := HD2.out.grown hg5 (own_box HV2.out.tw.a HD2.out (by decide)); have HD5 := Lib.hid hd5; have b1 : w5.cell? ⟨Q, 1, none⟩ = some (.int .i64 da) := hd5.cell 1; have b2 : w5.cell? ⟨Q, 2, none⟩ = some (.int .i64 du) := hd5.cell 2; clear ho5 hg5 hat5 hd5)
              | (refine step_app E_i64d rfl (.tmp 129) (.tmp 132) rfl rfl (HV3.out.tw.aN HLA0.out) ⟨wr.heap.size + 1, 0, none⟩ 1 1 [.int .i64 da] rfl rfl (World.news_of_block HA3.out) (by simp [Value.oneCell']) hb1 hb2 HV3.out.be.size (by decide) _ rfl ?_; intro g5 cap5 w5 ho5 hg5 hat5 _; have HT5 := Lib.hid (TwoR.putN HLA0.out HV3.out.tw hg5 ho5 hat5); have HU5 := Lib.hid (HU3.out.grown hg5 (new_far HW0.out.tw (Nat.le_refl _))); have HS5 := Lib.hid (HV3.out.sn.grown hg5 (own_box HV3.out.tw.a HV3.out.sn (by decide))); have HB5 := Lib.hid (HV3.out.be.grown hg5 HV3.out.be.size (fun q hq => (HV3.out.tw.a.lt q hq).1)); have hd5 := HD3.out.grown hg5 (own_box HV3.out.tw.a HD3.out (by decide)); have HD5 := Lib.hid hd5; have b1 : w5.cell? ⟨Q, 1, none⟩ = some (.int .i64 da) := hd5.cell 1; have b2 : w5.cell? ⟨Q, 2, none⟩ = some (.int .i64 du) := hd5.cell 2; clear ho5 hg5 hat5 hd5)
              | (refine step_app E_i64d rfl (.tmp 134) (.tmp 137) rfl rfl (HT5.out.symm.aN HLU0.out) _ 1 1 [.int .i64 du] rfl rfl (World.news_of_block HU5.out) (by simp [Value.oneCell']) hb1 hb2 HB5.out.size (by decide) _ rfl ?_; intro g6 cap6 w6 ho6 hg6 hat6 _; have HT6 := Lib.hid (TwoR.putN HLU0.out HT5.out.symm hg6 ho6 hat6).symm; have HS6 := Lib.hid (HS5.out.grown hg6 (own_box HT5.out.u HS5.out (by decide))); have HB6 := Lib.hid (HB5.out.grown hg6 HB5.out.size (fun q hq => (HT5.out.u.lt q hq).1)); have hd6 := HD5.out.grown hg6 (own_box HT5.out.u HD5.out (by decide)); have b1 : w6.cell? ⟨Q, 1, none⟩ = some (.int .i64 da) := hd6.cell 1; have b2 : w6.cell? ⟨Q, 2, none⟩ = some (.int .i64 du) := hd6.cell 2; clear ho6 hg6 hat6 hd6)
              | (have HT5 := Lib.hid (HT5.out.later (alloc1 w5 (.cells #[.int .i64 du] 2))); have HS5 := Lib.hid (HS5.out.alloc (.cells #[.int .i64 du] 2)); have HD5 := Lib.hid (HD5.out.alloc (.cells #[.int .i64 du] 2)); have HU5 := Lib.hid (Blk.new w5 2 #[.int .i64 du]); have HB5 := Lib.hid (HB5.out.alloc HB5.out.size (.cells #[.int .i64 du] 2)); refine step_app E_i64d rfl (.tmp 134) (.tmp 137) rfl rfl (HT5.out.symm.aN HLU0.out) _ 1 1 [.int .i64 du] rfl rfl (World.news_of_block HU5.out) (by simp [Value.oneCell']) hb1 hb2 HB5.out.size (by decide) _ rfl ?_; intro g6 cap6 w6 ho6 hg6 hat6 _; have HT6 := Lib.hid (TwoR.putN HLU0.out HT5.out.symm hg6 ho6 hat6).symm; have HS6 := Lib.hid (HS5.out.grown hg6 (own_box HT5.out.u HS5.out (by decide))); have HB6 := Lib.hid (HB5.out.grown hg6 HB5.out.size (fun q hq => (HT5.out.u.lt q hq).1)); have hd6 := HD5.out.grown hg6 (own_box HT5.out.u HD5.out (by decide)); have b1 : w6.cell? ⟨Q, 1, none⟩ = some (.int .i64 da) := hd6.cell 1; have b2 : w6.cell? ⟨Q, 2, none⟩ = some (.int .i64 du) := hd6.cell 2; clear ho6 hg6 hat6 hd6)))
          all_goals
            go_wp2_with fail
            go_roundw
            case rel => exact ⟨t + 1, (h0 : Int), some ⟨g5, 0, none⟩, cap5, some ⟨g6, 0, none⟩, cap6, rfl, rfl, rfl, by go_num, by omega, HLA2.out, ⟨HS6.out, HW0.out.hG, by rw [HAT.out, HUT.out]; exact HT6.out, HB6.out⟩⟩
            case measure => simp only [intOf]; omega
    · obtain rfl : t = N := by omega
      have hE6 := hE
      rw [List.take_of_length_le (show (dus f m).length ≤ t by rw [HDN.out]; exact Nat.le_refl _)] at hE6
      have HE6 := Lib.hid hE6
      have HB6 := Lib.hid hE6.be
      have hp := HP.out
      obtain ⟨z1, z2, z3⟩ := find_zero HFE.out
      rw [HF.out, HM.out] at z3
      have HOK := Lib.hid z3
      have HMAY := Lib.hid (check_all z2).2.2
      have HALI := Lib.hid (fun k (hk : k < m) => (show (f k).alone = aloneN its (rows0 its) (lnAt ls k) day ∧ (f k).e = aloneE its (rows0 its) (lnAt ls k) day ∧ (f k).units = (lnAt ls k).units ∧ I64 (f k).alone ∧ I64 (f k).units from by
        have hk2 : k < ls.length := by rw [HM.out]; exact hk
        have e1 : f k = lnd its (rows0 its) day k (lnAt ls k) := by rw [← HF.out]; rfl
        rw [e1]
        exact ⟨rfl, rfl, rfl, (alone0 hp.hE ((check_all z2).2.2 k hk2) z1).2.2, hp.u k hk2⟩))
      have HSA := Lib.hid (sums_all f m)
      have HBO := Lib.hid (new_BkOk hp.hE hp.hI)
      clear hE hE6 hp z1 z2 z3 HE hla HLA
      obtain ⟨w6, hw6⟩ : ∃ w6 : World, w6 = wr := ⟨_, rfl⟩
      rw [← hw6] at HE6 HB6 ⊢
      clear hw6
      go_wp2_with fail
      go_loopw [14, 16, 142] (fun vW vV v wx => ∃ (k : Nat) (PW : Option Addr) (cW : Nat) (PV : Option Addr) (cV : Nat), vW = .slice PW k cW ∧ vV = .slice PV k cV ∧ v = .int .i64 (k : Int) ∧ k ≤ m ∧ TwoR w6.heap.size vW vV (alN f k) (unN f k) wx ∧ Below w6.heap.size w6 wx) (fun _ _ v _ => m - (intOf v).toNat)
      case atStart => exact ⟨0, none, 0, none, 0, rfl, rfl, rfl, by omega, TwoR.nil _ _, Below.refl _ _⟩
      case round =>
        obtain ⟨k, PW, cW, PV, cV, rfl, rfl, rfl, hk, hT, hbe⟩ := hrel
        have HT := Lib.hid hT
        have HBE := Lib.hid hbe
        have HW4 := Lib.hid (HB6.out.trans (hbe.mono HB6.out.size))
        have k0 : (0 : Int) ≤ (k : Int) := Int.natCast_nonneg _
        by_cases hkm : k < m
        · have hkl : k < ls.length := by rw [HM.out]; exact hkm
          obtain ⟨bd, hB, y0, y1, y2, y3, y4⟩ := l_cells (HR4.out.below HW4.out) hkl
          subst hB
          obtain ⟨e1, e2, e3, e4, e5⟩ := HALI.out k hkm
          have e6 := HOK.out.1 k hkm
          have HCE := Lib.hid (show w6.cell? ⟨G, k, none⟩ = some (.int .i64 1) from by rw [HE6.out.cell hkm, cnt_all hkm])
          obtain ⟨x, hx⟩ : ∃ x, lnAt ls k = x := ⟨_, rfl⟩
          rw [hx] at y0 y1 y2 y3 y4 e1 e2 e3
          have HAL := Lib.hid (fun (W : World) (hb : Below w4.heap.size w4 W) => alone_any (HBK4.out.later hb) HBO.out x (by rw [← e3]; exact e5) day (f k).alone 0 ⟨e1.symm, by rw [← e2]; exact e6⟩)
          have HAS := Lib.hid (alN_succ f k)
          have HUS := Lib.hid (unN_succ f k)
          rw [e3] at HUS
          obtain ⟨u1, u2, u3, u4, u5⟩ := x
          dsimp only [Ln.val] at y0 y1 y2 y3 y4 HAL HUS
          obtain ⟨al, hal⟩ : ∃ al, (f k).alone = al := ⟨_, rfl⟩
          rw [hal] at HAL HAS
          have k1 : (k : Int) < (m : Int) := by omega
          have HTA := Lib.hid (hT.later (alloc1 wr (.cells #[.int .i64 u1, .int .i64 u2, .int .i64 u3, .int .i64 u4, .int .i64 u5] 45)))
          have HBA := Lib.hid (hbe.trans ((alloc1 wr (.cells #[.int .i64 u1, .int .i64 u2, .int .i64 u3, .int .i64 u4, .int .i64 u5] 45)).mono hbe.size))
          have HQA := Lib.hid (Blk.new wr 45 #[.int .i64 u1, .int .i64 u2, .int .i64 u3, .int .i64 u4, .int .i64 u5])
          clear hT hbe e1 e2 e3 e4 e5 e6 hx hal
          go_wp2_with fail
          refine (HAL.out _ (HB6.out.trans (HBA.out.mono HB6.out.size))).mono ?_
          rintro e w7 ⟨rfl, hb7⟩
          have HT7 := Lib.hid (HTA.out.later hb7)
          have HB7 := Lib.hid (HBA.out.trans (hb7.mono HBA.out.size))
          have HQ7 := Lib.hid (HQA.out.below hb7 HQA.out.lt)
          have hce := cell_below' HB7.out HCE.out
          obtain ⟨Q, hQ⟩ : ∃ Q, wr.heap.size = Q := ⟨_, rfl⟩
          rw [hQ] at HQ7 ⊢
          clear hb7 hQ HTA HBA HQA y0 y1 y2 y3 y4 HT HBE HW4
          have q1 : w7.cell? ⟨Q, 1, none⟩ = some (.int .i64 u2) := HQ7.out.cell 1
          have HLA0 := Lib.hid (alN_len f k)
          have HLU0 := Lib.hid (unN_len f k)
          have HT0 := Lib.hid (HT7.out.later (Later.refl w7).drew)
          have HW0 := Lib.hid (Below.drew HB7.out)
          have HD0 := Lib.hid HQ7.out.drew
          have HV1 := Lib.hid (HT0.out.later (alloc1 w7.drew (.cells #[.int .i64 al] 2)))
          have HW1 := Lib.hid (HW0.out.alloc HW0.out.size (.cells #[.int .i64 al] 2))
          have HD1 := Lib.hid (HD0.out.alloc (.cells #[.int .i64 al] 2))
          have HA1 := Lib.hid (show Blk (w7.drew.alloc (.cells #[.int .i64 al] 2)) w7.heap.size 2 #[.int .i64 al] from Blk.new w7.drew _ _)
          have HV2 := Lib.hid (HV1.out.later (alloc1 _ (.cells #[.int .i64 u2] 2)))
          have HW2 := Lib.hid (HW1.out.alloc HW1.out.size (.cells #[.int .i64 u2] 2))
          have HD2 := Lib.hid (HD1.out.alloc (.cells #[.int .i64 u2] 2))
          have HA2 := Lib.hid (HA1.out.alloc (.cells #[.int .i64 u2] 2))
          have HU2 := Lib.hid (show Blk ((w7.drew.alloc (.cells #[.int .i64 al] 2)).alloc (.cells #[.int .i64 u2] 2)) (w7.heap.size + 1) 2 #[.int .i64 u2] from lit_next w7.drew _ _ _)
          have HV3 := Lib.hid ((HT0.out.later (alloc1 w7.drew (.cells #[.int .i64 u2] 2))).later (alloc1 _ (.cells #[.int .i64 al] 2)))
          have HW3 := Lib.hid ((HW0.out.alloc HW0.out.size (.cells #[.int .i64 u2] 2)).alloc (HW0.out.alloc HW0.out.size (.cells #[.int .i64 u2] 2)).size (.cells #[.int .i64 al] 2))
          have HD3 := Lib.hid ((HD0.out.alloc (.cells #[.int .i64 u2] 2)).alloc (.cells #[.int .i64 al] 2))
          have HU3 := Lib.hid (show Blk ((w7.drew.alloc (.cells #[.int .i64 u2] 2)).alloc (.cells #[.int .i64 al] 2)) w7.heap.size 2 #[.int .i64 u2] from (Blk.new w7.drew _ _).alloc _)
          have HA3 := Lib.hid (show Blk ((w7.drew.alloc (.cells #[.int .i64 u2] 2)).alloc (.cells #[.int .i64 al] 2)) (w7.heap.size + 1) 2 #[.int .i64 al] from lit_next w7.drew _ _ _)
          have hb1 : (k + 1) * 8 ≤ 140737488355328 := by omega
          have hb2 : k + 1 ≤ maxLen := by unfold maxLen; omega
          go_wp2_with fail
          go_region_held3 (fun V => V.cell? ⟨Q, 1, none⟩ = some (.int .i64 u2))
            (first | exact b1 | (go_keep; done))
            ((first
              | (refine step_app E_i64d rfl (.tmp 163) (.tmp 165) rfl rfl (HV1.out.aN HLA0.out) ⟨w7.heap.size, 0, none⟩ 1 1 [.int .i64 al] rfl rfl (World.news_of_block HA1.out) (by simp [Value.oneCell']) hb1 hb2 HW1.out.size (by decide) _ rfl ?_; intro g5 cap5 w8 ho5 hg5 hat5 _; have HT5 := Lib.hid (TwoR.putN HLA0.out HV1.out hg5 ho5 hat5); have HB5 := Lib.hid (HW1.out.grown hg5 HW1.out.size (fun q hq => (HV1.out.a.lt q hq).1)); have hd5 := HD1.out.grown hg5 (own_box HV1.out.a HD1.out (by decide)); have HD5 := Lib.hid hd5; have b1 : w8.cell? ⟨Q, 1, none⟩ = some (.int .i64 u2) := hd5.cell 1; clear ho5 hg5 hat5 hd5)
              | (refine step_app E_i64d rfl (.tmp 163) (.tmp 165) rfl rfl (HV2.out.aN HLA0.out) ⟨w7.heap.size, 0, none⟩ 1 1 [.int .i64 al] rfl rfl (World.news_of_block HA2.out) (by simp [Value.oneCell']) hb1 hb2 HW2.out.size (by decide) _ rfl ?_; intro g5 cap5 w8 ho5 hg5 hat5 _; have HT5 := Lib.hid (TwoR.putN HLA0.out HV2.out hg5 ho5 hat5); have HU5 := Lib.hid (HU2.out.grown hg5 (new_far HT0.out (Nat.le_succ _))); have HB5 := Lib.hid (HW2.out.grown hg5 HW2.out.size (fun q hq => (HV2.out.a.lt q hq).1)); have hd5 := HD2.out.grown hg5 (own_box HV2.out.a HD2.out (by decide)); have HD5 := Lib.hid hd5; have b1 : w8.cell? ⟨Q, 1, none⟩ = some (.int .i64 u2) := hd5.cell 1; clear ho5 hg5 hat5 hd5)
              | (refine step_app E_i64d rfl (.tmp 163) (.tmp 165) rfl rfl (HV3.out.aN HLA0.out) ⟨w7.heap.size + 1, 0, none⟩ 1 1 [.int .i64 al] rfl rfl (World.news_of_block HA3.out) (by simp [Value.oneCell']) hb1 hb2 HW3.out.size (by decide) _ rfl ?_; intro g5 cap5 w8 ho5 hg5 hat5 _; have HT5 := Lib.hid (TwoR.putN HLA0.out HV3.out hg5 ho5 hat5); have HU5 := Lib.hid (HU3.out.grown hg5 (new_far HT0.out (Nat.le_refl _))); have HB5 := Lib.hid (HW3.out.grown hg5 HW3.out.size (fun q hq => (HV3.out.a.lt q hq).1)); have hd5 := HD3.out.grown hg5 (own_box HV3.out.a HD3.out (by decide)); have HD5 := Lib.hid hd5; have b1 : w8.cell? ⟨Q, 1, none⟩ = some (.int .i64 u2) := hd5.cell 1; clear ho5 hg5 hat5 hd5)
              | (refine step_app E_i64d rfl (.tmp 167) (.tmp 170) rfl rfl (HT5.out.symm.aN HLU0.out) _ 1 1 [.int .i64 u2] rfl rfl (World.news_of_block HU5.out) (by simp [Value.oneCell']) hb1 hb2 HB5.out.size (by decide) _ rfl ?_; intro g6 cap6 w9 ho6 hg6 hat6 _; have HT6 := Lib.hid (TwoR.putN HLU0.out HT5.out.symm hg6 ho6 hat6).symm; have HB6' := Lib.hid (HB5.out.grown hg6 HB5.out.size (fun q hq => (HT5.out.u.lt q hq).1)); have hd6 := HD5.out.grown hg6 (own_box HT5.out.u HD5.out (by decide)); have b1 : w9.cell? ⟨Q, 1, none⟩ = some (.int .i64 u2) := hd6.cell 1; clear ho6 hg6 hat6 hd6)
              | (have HT5 := Lib.hid (HT5.out.later (alloc1 w8 (.cells #[.int .i64 u2] 2))); have HD5 := Lib.hid (HD5.out.alloc (.cells #[.int .i64 u2] 2)); have HU5 := Lib.hid (Blk.new w8 2 #[.int .i64 u2]); have HB5 := Lib.hid (HB5.out.alloc HB5.out.size (.cells #[.int .i64 u2] 2)); refine step_app E_i64d rfl (.tmp 167) (.tmp 170) rfl rfl (HT5.out.symm.aN HLU0.out) _ 1 1 [.int .i64 u2] rfl rfl (World.news_of_block HU5.out) (by simp [Value.oneCell']) hb1 hb2 HB5.out.size (by decide) _ rfl ?_; intro g6 cap6 w9 ho6 hg6 hat6 _; have HT6 := Lib.hid (TwoR.putN HLU0.out HT5.out.symm hg6 ho6 hat6).symm; have HB6' := Lib.hid (HB5.out.grown hg6 HB5.out.size (fun q hq => (HT5.out.u.lt q hq).1)); have hd6 := HD5.out.grown hg6 (own_box HT5.out.u HD5.out (by decide)); have b1 : w9.cell? ⟨Q, 1, none⟩ = some (.int .i64 u2) := hd6.cell 1; clear ho6 hg6 hat6 hd6)))
          all_goals
            go_wp2_with fail
            go_roundw
            case rel => exact ⟨k + 1, some ⟨g5, 0, none⟩, cap5, some ⟨g6, 0, none⟩, cap6, rfl, rfl, by go_num, by omega, by rw [HAS.out, HUS.out]; exact HT6.out, HB6'.out⟩
            case measure => simp only [intOf]; omega
        · obtain rfl : k = m := by omega
          have hok := HOK.out
          have HS1 := Lib.hid (fun (W : World) (hb : Below w6.heap.size w6 W) => sum_as (HE6.out.tw.aN (show (alL (dus f k)).length = t by simp [alL, HDN.out])) hb (by simp [alL, HDN.out]) (by omega) (fun x hx => by unfold alL at hx; obtain ⟨d, hd, rfl⟩ := List.mem_map.1 hx; exact (hok.2 d hd).1) _ _ ⟨rfl, rfl⟩)
          have HS2 := Lib.hid (fun (W : World) (hb : Below w6.heap.size w6 W) => sum_as (HE6.out.tw.symm.aN (show (unL (dus f k)).length = t by simp [unL, HDN.out])) hb (by simp [unL, HDN.out]) (by omega) (fun x hx => by unfold unL at hx; obtain ⟨d, hd, rfl⟩ := List.mem_map.1 hx; exact (hok.2 d hd).2) _ _ ⟨rfl, rfl⟩)
          have HS3 := Lib.hid (fun (W : World) (hb : Below wr.heap.size wr W) => sum_as (hT.aN (alN_len f k)) hb (alN_len f k) (by omega) (fun x hx => by unfold alN at hx; obtain ⟨i, hi, rfl⟩ := List.mem_map.1 hx; exact (HALI.out i (List.mem_range.1 hi)).2.2.2.1) _ _ ⟨rfl, rfl⟩)
          have HS4 := Lib.hid (fun (W : World) (hb : Below wr.heap.size wr W) => sum_as (hT.symm.aN (unN_len f k)) hb (unN_len f k) (by omega) (fun x hx => by unfold unN at hx; obtain ⟨i, hi, rfl⟩ := List.mem_map.1 hx; exact (HALI.out i (List.mem_range.1 hi)).2.2.2.2) _ _ ⟨rfl, rfl⟩)
          rw [show (alN f k).sum = (alL (dus f k)).sum from HSA.out.1.symm] at HS3
          rw [show (unN f k).sum = (unL (dus f k)).sum from HSA.out.2.symm] at HS4
          generalize sumN (alL (dus f k)).sum = o1 at *
          generalize sumE (alL (dus f k)).sum = o2 at *
          generalize sumN (unL (dus f k)).sum = o3 at *
          generalize sumE (unL (dus f k)).sum = o4 at *
          clear hok hT hbe
          go_wp2_with fail
          refine (HS1.out _ HBE.out).mono ?_
          rintro e w8 ⟨rfl, hb8⟩
          have HB8 := Lib.hid hb8
          clear hb8
          go_wp2_with fail
          refine (HS3.out _ HB8.out).mono ?_
          rintro e w9 ⟨rfl, hb9⟩
          have HB9 := Lib.hid (HB8.out.trans (hb9.mono HB8.out.size))
          clear hb9
          go_wp2_with fail
          refine (HS2.out _ (HBE.out.trans (HB9.out.mono HBE.out.size))).mono ?_
          rintro e w10 ⟨rfl, hb10⟩
          have HB10 := Lib.hid (HB9.out.trans (hb10.mono HB9.out.size))
          clear hb10
          go_wp2_with fail
          refine (HS4.out _ HB10.out).mono ?_
          rintro e w11 ⟨rfl, hb11⟩
          have HB11 := Lib.hid (HB4.out.trans ((HW4.out.trans ((HB10.out.trans (hb11.mono HB10.out.size)).mono HW4.out.size)).mono HB4.out.size))
          clear hb11
          go_wp2_with fail
          go_ret
          exact ⟨rfl, HB11.out⟩
theorem each_walk (A : Option Addr) (its : List It) (c : Nat) (B : Option Addr) (ls : List Ln) (d : Nat) (day : Int) (w : World) (hI : ∀ x ∈ its, ItI x) (hr : Row w 0 A (icells its)) (hs1 : its.length * 32 ≤ 140737488351232) (hlI : ∀ x ∈ ls, LnI x) (hrl : Row w 0 B (lcells ls)) (hs2 : ls.length * 40 ≤ 140737488351232) (hday : I64 day) :
    Calls Try.prog 4 #[.slice A its.length c, .slice B ls.length d, .int .i64 day] w fun e w' => e = .returned (.bool true) ∧ Below w.heap.size w w' := by
  by_cases h50 : 50 < its.length
  · exact each_large A B _ _ c d day w (.inl h50)
  · by_cases h30 : 30 < ls.length
    · exact each_large A B _ _ c d day w (.inr h30)
    · by_cases hE : newE its = 0
      · have hp : EP its ls A B w := ⟨hE, hI, by omega, hr, hrl, fun i hi => (hlI _ (lnAt_mem hi)).2.1⟩
        by_cases hF : findE its (rows0 its) day ls = 0
        · exact each_go A B its ls c d day w hp hF
        · exact each_err A B its ls c d day w hp hF
      · exact each_nobook A B its ls.length c d day w hr h50 h30 hE
end Go.Proofs.Ytbdhbongaikphaa.BK
