/- Plain: what allot's functions answer. -/
import Derived.Test.YtkceeifhnohioaaPortionGood
import Derived.Maps.OwnSet
import Derived.Maps.RangeWalk
import Derived.Maps.Views
import Derived.RowKit
namespace Go.Proofs.Ytkceeifhnohioaa.PO
open Go.Proofs.Ytkceeifhnohioaa.Cents
set_option linter.unusedVariables false
set_option linter.unusedSimpArgs false

def allE (p : Int) (al : List Int) : Int := if p < 0 then 1 else outE p al
def allV (p : Int) (al : List Int) : List Int := if p < 0 then [] else outV p al
def leftE (o s : Int) : Int := if I64 s then (if I64 (o - s) then 0 else 3) else 3
def leftN (o s : Int) : Int := if leftE o s = 0 then o - s else 0
def Rises (wh : List Int) (most : Nat) : Prop := wh ≠ [] ∧ (∀ x ∈ wh, 0 ≤ x ∧ x < (most : Int)) ∧ wh.Pairwise (· < ·)
instance (wh : List Int) (most : Nat) : Decidable (Rises wh most) := by unfold Rises; infer_instance
def pick (al wh : List Int) : List Int := wh.map fun k => al.getD k.toNat 0
def lay : List Int → List Int → List Int → List Int
  | al, k :: wh, v :: V => lay (al.set k.toNat v) wh V
  | al, _, _ => al
def sumF (n : Nat) (g : Nat → Int) : Int := ((List.range n).map g).sum
theorem sumF_succ (n : Nat) (g : Nat → Int) : sumF (n + 1) g = sumF n g + g n := by simp [sumF, List.range_succ]
theorem sumF_same {n : Nat} {g g' : Nat → Int} (h : ∀ i, i < n → g i = g' i) : sumF n g = sumF n g' := by
  induction n with
  | zero => rfl
  | succ n ih => rw [sumF_succ, sumF_succ, ih (fun i hi => h i (by omega)), h n (by omega)]
theorem sumF_change {n : Nat} {g g' : Nat → Int} {x : Nat} (hx : x < n) (h : ∀ i, i < n → i ≠ x → g i = g' i) : sumF n g' = sumF n g - g x + g' x := by
  induction n with
  | zero => omega
  | succ n ih =>
    rw [sumF_succ, sumF_succ]
    by_cases e : x = n
    · subst e
      rw [sumF_same (g := g) (g' := g') (fun i hi => h i (by omega) (by omega))]
      omega
    · rw [ih (by omega) (fun i hi hne => h i (by omega) hne), h n (by omega) (by omega)]
      omega
theorem getD_cons_succ' (a : Int) (l : List Int) (i : Nat) : (a :: l).getD (i + 1) 0 = l.getD i 0 := by simp [List.getD_eq_getElem?_getD]
theorem sumF_all (al : List Int) : sumF al.length (fun i => al.getD i 0) = al.sum := by
  suffices h : ∀ k, k ≤ al.length → sumF k (fun i => al.getD i 0) = (al.take k).sum by
    rw [h _ (Nat.le_refl _), List.take_length]
  intro k
  induction k with
  | zero => intro _; simp [sumF]
  | succ k ih =>
    intro hk
    rw [sumF_succ, ih (by omega), List.take_succ_eq_append_getElem (by omega), List.sum_append]
    have e : al.getD k 0 = al[k] := by simp [List.getD_eq_getElem?_getD, List.getElem?_eq_getElem (show k < al.length by omega)]
    rw [e, List.sum_singleton]
/-- What the others have, of those that are no longer to come. -/
def restF (al wh : List Int) (left : Int → Bool) : Nat → Int := fun i => if (i : Int) ∈ wh ∨ left (i : Int) = true then 0 else al.getD i 0
theorem rest_pick (al : List Int) (left : Int → Bool) : ∀ (wh : List Int), (∀ x ∈ wh, 0 ≤ x ∧ x < (al.length : Int)) → wh.Pairwise (· < ·) → (∀ x, left x = false) → sumF al.length (restF al wh left) = al.sum - (pick al wh).sum
  | [], _, _, hl => by
    rw [← sumF_all al]
    simp only [pick, List.map_nil, List.sum_nil, Int.sub_zero]
    exact sumF_same fun i _ => by simp [restF, hl]
  | x :: wh, h, hp, hl => by
    have ih := rest_pick al left wh (fun y hy => h y (by simp [hy])) (List.Pairwise.of_cons hp) hl
    have hx := h x (by simp)
    have hnx : x ∉ wh := fun hm => by have := List.rel_of_pairwise_cons hp hm; omega
    have e : ((x.toNat : Nat) : Int) = x := by omega
    rw [sumF_change (g := restF al wh left) (x := x.toNat) (by omega) (fun i hi hne => ?_), ih]
    · have : restF al (x :: wh) left x.toNat = 0 := by simp [restF, e]
      rw [this]
      have : restF al wh left x.toNat = al.getD x.toNat 0 := by simp [restF, e, hnx, hl]
      rw [this]
      simp only [pick, List.map_cons, List.sum_cons]
      omega
    · have : ¬ ((i : Int) = x) := by omega
      simp [restF, this]
theorem rest_step {al wh : List Int} {left left' : Int → Bool} {x : Int} (h0 : 0 ≤ x) (hn : x < (al.length : Int)) (hw : x ∉ wh) (hl : left x = true) (hl1 : left' x = false) (hl2 : ∀ y, y ≠ x → left' y = left y) :
    sumF al.length (restF al wh left') = sumF al.length (restF al wh left) + al.getD x.toNat 0 := by
  have e : ((x.toNat : Nat) : Int) = x := by omega
  rw [sumF_change (g := restF al wh left) (x := x.toNat) (by omega) (fun i hi hne => ?_)]
  · have h1 : restF al wh left x.toNat = 0 := by simp [restF, e, hl]
    have h2 : restF al wh left' x.toNat = al.getD x.toNat 0 := by simp [restF, e, hw, hl1]
    omega
  · simp only [restF]
    rw [hl2 _ (by omega)]
theorem rest_start {al wh : List Int} {left : Int → Bool} (h : ∀ i : Nat, i < al.length → (i : Int) ∉ wh → left (i : Int) = true) : sumF al.length (restF al wh left) = 0 := by
  rw [sumF_same (g' := fun _ => 0) (fun i hi => ?_)]
  · have : ∀ n, sumF n (fun _ => 0) = 0 := fun n => by
      induction n with
      | zero => rfl
      | succ n ih => rw [sumF_succ, ih]; rfl
    exact this _
  · simp only [restF]
    by_cases hm : (i : Int) ∈ wh
    · simp [hm]
    · simp [h i hi hm]
theorem lay_len : ∀ (wh al V : List Int), (lay al wh V).length = al.length
  | [], al, _ => by simp [lay]
  | k :: wh, al, [] => by simp [lay]
  | k :: wh, al, v :: V => by simp only [lay]; rw [lay_len wh, List.length_set]
theorem lay_snoc : ∀ (wh al V : List Int) (k v : Int), wh.length = V.length → lay al (wh ++ [k]) (V ++ [v]) = (lay al wh V).set k.toNat v
  | [], al, [], k, v, _ => by simp [lay]
  | [], al, _ :: _, k, v, h => by simp at h
  | _ :: _, al, [], k, v, h => by simp at h
  | x :: wh, al, y :: V, k, v, h => by
    simp only [List.cons_append, lay]
    exact lay_snoc wh _ V k v (by simpa using h)
theorem sum_set (al : List Int) : ∀ (i : Nat) (v : Int), i < al.length → (al.set i v).sum = al.sum - al.getD i 0 + v := by
  induction al with
  | nil => intro i v h; simp at h
  | cons a l ih =>
    intro i v h
    cases i with
    | zero => simp; omega
    | succ i =>
      rw [List.set_cons_succ, List.sum_cons, ih i v (by simpa using h), List.sum_cons, getD_cons_succ']
      omega
theorem pick_set {al wh : List Int} {k v : Int} (h0 : 0 ≤ k) (h : ∀ x ∈ wh, k < x) : pick (al.set k.toNat v) wh = pick al wh := by
  unfold pick
  apply List.map_congr_left
  intro x hx
  have := h x hx
  simp only [List.getD_eq_getElem?_getD]
  rw [List.getElem?_set_ne (by omega)]
theorem lay_sum : ∀ (wh al V : List Int), wh.length = V.length → (∀ x ∈ wh, 0 ≤ x ∧ x < (al.length : Int)) → wh.Pairwise (· < ·) → (lay al wh V).sum = al.sum - (pick al wh).sum + V.sum
  | [], al, [], _, _, _ => by simp [lay, pick]
  | [], al, _ :: _, h, _, _ => by simp at h
  | _ :: _, al, [], h, _, _ => by simp at h
  | k :: wh, al, v :: V, h, hr, hp => by
    have hk := hr k (by simp)
    simp only [lay]
    rw [lay_sum wh _ V (by simpa using h) (fun x hx => by rw [List.length_set]; exact hr x (by simp [hx])) (List.Pairwise.of_cons hp), sum_set _ _ _ (by omega), pick_set hk.1 (fun x hx => List.rel_of_pairwise_cons hp hx)]
    simp only [pick, List.map_cons, List.sum_cons]
    omega
theorem lay_pick : ∀ (wh al : List Int), (∀ x ∈ wh, 0 ≤ x ∧ x < (al.length : Int)) → wh.Pairwise (· < ·) → lay al wh (pick al wh) = al
  | [], al, _, _ => by simp [lay, pick]
  | k :: wh, al, hr, hp => by
    have hk := hr k (by simp)
    have e : al.set k.toNat (al.getD k.toNat 0) = al := by
      apply List.ext_getElem
      · simp
      · intro i h1 h2
        rw [List.getElem_set]
        split
        · rename_i h; subst h; simp [List.getD_eq_getElem?_getD, h2]
        · rfl
    simp only [pick, List.map_cons, lay]
    rw [e]
    exact lay_pick wh al (fun x hx => hr x (by simp [hx])) (List.Pairwise.of_cons hp)
theorem lay_other : ∀ (wh al V : List Int) (i : Nat), (∀ x ∈ wh, 0 ≤ x) → (i : Int) ∉ wh → (lay al wh V).getD i 0 = al.getD i 0
  | [], al, _, i, _, _ => by simp [lay]
  | k :: wh, al, [], i, _, _ => by simp [lay]
  | k :: wh, al, v :: V, i, h0, h => by
    simp only [lay]
    rw [lay_other wh _ V i (fun x hx => h0 x (by simp [hx])) (fun hm => h (by simp [hm]))]
    simp only [List.getD_eq_getElem?_getD]
    have : ¬ ((i : Int) = k) := fun e => h (by simp [e])
    have hk := h0 k (by simp)
    rw [List.getElem?_set_ne (by omega)]
theorem lay_mem : ∀ (wh al V : List Int) (x : Int), x ∈ lay al wh V → x ∈ al ∨ x ∈ V
  | [], al, V, x, h => by simp [lay] at h; exact .inl h
  | k :: wh, al, [], x, h => by simp [lay] at h; exact .inl h
  | k :: wh, al, v :: V, x, h => by
    simp only [lay] at h
    rcases lay_mem wh _ V x h with q | q
    · rcases List.mem_or_eq_of_mem_set q with q | q
      · exact .inl q
      · exact .inr (by simp [q])
    · exact .inr (by simp [q])
def someG (p : Int) (al wh : List Int) : Prop := 0 ≤ p ∧ (∀ x ∈ al, 0 ≤ x) ∧ Rises wh al.length
instance (p : Int) (al wh : List Int) : Decidable (someG p al wh) := by unfold someG; infer_instance
def someE (p : Int) (al wh : List Int) : Int :=
  if someG p al wh then
    (if leftE p (al.sum - (pick al wh).sum) = 0 then (if leftN p (al.sum - (pick al wh).sum) < 0 then 1 else outE (leftN p (al.sum - (pick al wh).sum)) (pick al wh)) else 3)
  else 1
def someV (p : Int) (al wh : List Int) : List Int := if someE p al wh = 0 then lay al wh (outV (leftN p (al.sum - (pick al wh).sum)) (pick al wh)) else []
def discN (p : Int) (al : List Int) : Int := al.sum - p
def addsE (V d : List Int) : Int := if ∀ i, i < V.length → I64 (V.getD i 0 + d.getD i 0) then 0 else 3
def againE (t : Int) (d al : List Int) : Int :=
  if d.length = al.length then
    (if leftE t d.sum = 0 then (if outE (leftN t d.sum) al = 0 then addsE (outV (leftN t d.sum) al) d else outE (leftN t d.sum) al) else 3)
  else 1
def mix (V d : List Int) (k : Nat) : List Int := (List.range V.length).map fun i => if i < k then V.getD i 0 + d.getD i 0 else V.getD i 0
def againV (t : Int) (d al : List Int) : List Int := if againE t d al = 0 then mix (outV (leftN t d.sum) al) d al.length else []
theorem mix_len (V d : List Int) (k : Nat) : (mix V d k).length = V.length := by simp [mix]
theorem mix_zero (V d : List Int) : mix V d 0 = V := by
  apply List.ext_getElem
  · simp [mix]
  · intro i h1 h2
    simp [mix, List.getD_eq_getElem?_getD, h2]
theorem mix_get {V d : List Int} {k : Nat} (h : k < V.length) : (mix V d k).getD k 0 = V.getD k 0 := by
  simp [mix, List.getD_eq_getElem?_getD, h]
theorem mix_all {V d : List Int} {i : Nat} (h : i < V.length) : (mix V d V.length).getD i 0 = V.getD i 0 + d.getD i 0 := by
  simp [mix, List.getD_eq_getElem?_getD, h]
theorem mix_step {V d : List Int} {k : Nat} (h : k < V.length) : (mix V d k).set k (V.getD k 0 + d.getD k 0) = mix V d (k + 1) := by
  apply List.ext_getElem
  · simp [mix]
  · intro i h1 h2
    rw [List.getElem_set]
    by_cases e : k = i
    · subst e
      simp [mix]
    · rw [if_neg e]
      simp only [mix, List.getElem_map, List.getElem_range]
      by_cases c : i < k
      · rw [if_pos c, if_pos (by omega)]
      · rw [if_neg c, if_neg (by omega)]
theorem mix_sum {V d : List Int} (h : d.length = V.length) : (mix V d V.length).sum = V.sum + d.sum := by
  have h1 : mix V d V.length = (List.range V.length).map fun i => V.getD i 0 + d.getD i 0 := by
    unfold mix
    apply List.map_congr_left
    intro i hi
    rw [if_pos (List.mem_range.1 hi)]
  have h2 : ∀ n, sumF n (fun i => V.getD i 0 + d.getD i 0) = sumF n (fun i => V.getD i 0) + sumF n (fun i => d.getD i 0) := fun n => by
    induction n with
    | zero => rfl
    | succ n ih => rw [sumF_succ, sumF_succ, sumF_succ, ih]; omega
  rw [h1]
  have h3 := h2 V.length
  rw [sumF_all] at h3
  rw [show sumF V.length (fun i => d.getD i 0) = d.sum by rw [← h]; exact sumF_all d] at h3
  exact h3
theorem again_len {t : Int} {d al : List Int} (h : d.length ≠ al.length) : againE t d al = 1 ∧ againV t d al = [] := by
  have h1 : againE t d al = 1 := by unfold againE; rw [if_neg h]
  exact ⟨h1, by unfold againV; rw [h1, if_neg (by decide)]⟩
theorem leftE_or (o s : Int) : leftE o s = 0 ∨ leftE o s = 3 := by
  unfold leftE; split
  · split <;> simp
  · simp
theorem leftN_I {o s : Int} : I64 (leftN o s) := by
  unfold leftN
  split
  · rename_i h
    unfold leftE at h
    split at h
    · split at h
      · assumption
      · simp at h
    · simp at h
  · exact ⟨by decide, by decide⟩
theorem again_left {t : Int} {d al : List Int} (h : d.length = al.length) (h2 : leftE t d.sum ≠ 0) : againE t d al = 3 ∧ againV t d al = [] := by
  have h1 : againE t d al = 3 := by unfold againE; rw [if_pos h, if_neg h2]
  exact ⟨h1, by unfold againV; rw [h1, if_neg (by decide)]⟩
theorem again_out {t : Int} {d al : List Int} (h : d.length = al.length) (h2 : leftE t d.sum = 0) (h3 : outE (leftN t d.sum) al ≠ 0) : againE t d al = outE (leftN t d.sum) al ∧ againV t d al = [] := by
  have h1 : againE t d al = outE (leftN t d.sum) al := by unfold againE; rw [if_pos h, if_pos h2, if_neg h3]
  exact ⟨h1, by unfold againV; rw [h1, if_neg h3]⟩
theorem again_over {t : Int} {d al : List Int} (h : d.length = al.length) (h2 : leftE t d.sum = 0) (h3 : outE (leftN t d.sum) al = 0) {k : Nat} (hk : k < (outV (leftN t d.sum) al).length) (h4 : ¬ I64 ((outV (leftN t d.sum) al).getD k 0 + d.getD k 0)) : againE t d al = 3 ∧ againV t d al = [] := by
  have h1 : againE t d al = 3 := by
    unfold againE addsE
    rw [if_pos h, if_pos h2, if_pos h3, if_neg (fun h5 => h4 (h5 k hk))]
  exact ⟨h1, by unfold againV; rw [h1, if_neg (by decide)]⟩
theorem again_ok {t : Int} {d al : List Int} (h : d.length = al.length) (h2 : leftE t d.sum = 0) (h3 : outE (leftN t d.sum) al = 0) (h4 : ∀ i, i < (outV (leftN t d.sum) al).length → I64 ((outV (leftN t d.sum) al).getD i 0 + d.getD i 0)) : againE t d al = 0 ∧ againV t d al = mix (outV (leftN t d.sum) al) d al.length := by
  have h1 : againE t d al = 0 := by
    unfold againE addsE
    rw [if_pos h, if_pos h2, if_pos h3, if_pos h4]
  exact ⟨h1, by unfold againV; rw [h1, if_pos rfl]⟩
section
open Go.RowKit Go.Proofs.Ytkceeifhnohioaa.Cents
open Go.Maps (Keyed)
set_option linter.unusedVariables false
set_option linter.unusedSimpArgs false

section
variable {p : Int} {al wh : List Int}
theorem some_no (h : ¬ someG p al wh) : someE p al wh = 1 ∧ someV p al wh = [] := by
  have h1 : someE p al wh = 1 := by unfold someE; rw [if_neg h]
  exact ⟨h1, by unfold someV; rw [h1, if_neg (by decide)]⟩
theorem some_left (h : someG p al wh) (h2 : leftE p (al.sum - (pick al wh).sum) ≠ 0) : someE p al wh = 3 ∧ someV p al wh = [] := by
  have h1 : someE p al wh = 3 := by unfold someE; rw [if_pos h, if_neg h2]
  exact ⟨h1, by unfold someV; rw [h1, if_neg (by decide)]⟩
theorem some_neg (h : someG p al wh) (h2 : leftE p (al.sum - (pick al wh).sum) = 0) (h3 : leftN p (al.sum - (pick al wh).sum) < 0) : someE p al wh = 1 ∧ someV p al wh = [] := by
  have h1 : someE p al wh = 1 := by unfold someE; rw [if_pos h, if_pos h2, if_pos h3]
  exact ⟨h1, by unfold someV; rw [h1, if_neg (by decide)]⟩
theorem some_out (h : someG p al wh) (h2 : leftE p (al.sum - (pick al wh).sum) = 0) (h3 : ¬ leftN p (al.sum - (pick al wh).sum) < 0) (h4 : outE (leftN p (al.sum - (pick al wh).sum)) (pick al wh) ≠ 0) : someE p al wh = outE (leftN p (al.sum - (pick al wh).sum)) (pick al wh) ∧ someV p al wh = [] := by
  have h1 : someE p al wh = outE (leftN p (al.sum - (pick al wh).sum)) (pick al wh) := by unfold someE; rw [if_pos h, if_pos h2, if_neg h3]
  exact ⟨h1, by unfold someV; rw [h1, if_neg h4]⟩
theorem some_ok (h : someG p al wh) (h2 : leftE p (al.sum - (pick al wh).sum) = 0) (h3 : ¬ leftN p (al.sum - (pick al wh).sum) < 0) (h4 : outE (leftN p (al.sum - (pick al wh).sum)) (pick al wh) = 0) : someE p al wh = 0 ∧ someV p al wh = lay al wh (outV (leftN p (al.sum - (pick al wh).sum)) (pick al wh)) := by
  have h1 : someE p al wh = 0 := by unfold someE; rw [if_pos h, if_pos h2, if_neg h3, h4]
  exact ⟨h1, by unfold someV; rw [h1, if_pos rfl]⟩
end
theorem pick_len (al wh : List Int) : (pick al wh).length = wh.length := by simp [pick]
theorem pick_snoc (al wh : List Int) {j : Nat} (h : j < wh.length) : pick al (wh.take (j + 1)) = pick al (wh.take j) ++ [al.getD (wh.getD j 0).toNat 0] := by
  have e : wh.getD j 0 = wh[j] := by simp [List.getD_eq_getElem?_getD, h]
  rw [List.take_succ_eq_append_getElem h, e]
  unfold pick
  rw [List.map_append]
  rfl
theorem pick_mem {al wh : List Int} {x : Int} (hw : ∀ y ∈ wh, 0 ≤ y ∧ y < (al.length : Int)) (h : x ∈ pick al wh) : x ∈ al := by
  unfold pick at h
  obtain ⟨y, hy, rfl⟩ := List.mem_map.1 h
  have := hw y hy
  have h1 : y.toNat < al.length := by omega
  simp [List.getD_eq_getElem?_getD, h1]

/-- What the map has. -/
def Reads (D : DataW Unit) (f : Int → Option Int) : Prop := ∀ x, I64 x → ∀ z, D.atKey (.int .i64 x) z = match f x with | some c => .lit (.int .i64 c) | none => z
theorem Reads.made : Reads (.map []) (fun _ => none) := fun x _ z => WideAt.atKey_none z (by simp)
theorem Reads.congr {D : DataW Unit} {f g : Int → Option Int} (h : Reads D f) (he : ∀ x, I64 x → f x = g x) : Reads D g := fun x hx z => by rw [h x hx z, he x hx]
theorem Reads.put {D : DataW Unit} {f : Int → Option Int} (h : Reads D f) (hm : Maps.IsMap D) (k v : Int) : Reads (D.put (.int .i64 k) (.lit (.int .i64 v))) (fun x => if x = k then some v else f x) := fun x hx z => by
  by_cases e : x = k
  · subst e
    rw [Maps.atKey_put_same hm (show WideAt.IsKeyLit (.int .i64 x) from trivial)]
    simp
  · rw [Maps.atKey_put_other (fun h => e (by injection h)), h x hx z]
    simp [e]
theorem Reads.del {D : DataW Unit} {f : Int → Option Int} (h : Reads D f) (k : Int) : Reads (D.del (.int .i64 k)) (fun x => if x = k then none else f x) := fun x hx z => by
  by_cases e : x = k
  · subst e
    rw [Maps.atKey_del_same]
    simp
  · rw [Maps.atKey_del_other (fun h => e (by injection h)), h x hx z]
    simp [e]
theorem Reads.get {D : DataW Unit} {f : Int → Option Int} (h : Reads D f) {x c : Int} (hx : I64 x) (hat : ∀ z, D.atKey (.int .i64 x) z = .lit (.int .i64 c)) : f x = some c := by
  have h1 := hat .nil
  rw [h x hx .nil] at h1
  cases hf : f x with
  | none => rw [hf] at h1; cases h1
  | some y => rw [hf] at h1; simp only at h1; injection h1 with h1; injection h1 with _ h1; rw [h1]
theorem Reads.has {D : DataW Unit} {f : Int → Option Int} (h : Reads D f) {x c : Int} (hx : I64 x) (hf : f x = some c) : Maps.has D (.int .i64 x) = true := Maps.has_true_of_atKey (y := .lit (.int .i64 c)) fun z => by rw [h x hx z, hf]
theorem wf_int {a : Int} (h : I64 a) : (Lit.int .i64 a).wf = true := by
  unfold I64 at h
  have h1 : IntKind.i64.min = -9223372036854775808 := by decide
  have h2 : IntKind.i64.max = 9223372036854775807 := by decide
  simp [Lit.wf, h1, h2]
  omega
theorem int_wf {a : Int} (h : (Lit.int .i64 a).wf = true) : I64 a := by
  have h1 : IntKind.i64.min = -9223372036854775808 := by decide
  have h2 : IntKind.i64.max = 9223372036854775807 := by decide
  simp [Lit.wf, h1, h2] at h
  unfold I64
  omega
def leftI (left : Lit → Bool) : Int → Bool := fun x => left (.int .i64 x)
theorem leftI_same (left : Lit → Bool) (x : Int) : leftI (fun z => left z && !z.sameKey (.int .i64 x)) x = false := by
  simp only [leftI]
  rw [WideAt.sameKey_self (by trivial)]
  simp
theorem leftI_other (left : Lit → Bool) {x y : Int} (h : y ≠ x) : leftI (fun z => left z && !z.sameKey (.int .i64 x)) y = leftI left y := by
  simp only [leftI]
  rw [Maps.sameKey_ne (fun e => h (by injection e))]
  simp
/-- The map after k of the first row's. -/
def f1 (al : List Int) (k : Nat) : Int → Option Int := fun x => if 0 ≤ x ∧ x < (k : Int) then some (al.getD x.toNat 0) else none
theorem f1_step (al : List Int) (k : Nat) (x : Int) : (if x = (k : Int) then some (al.getD k 0) else f1 al k x) = f1 al (k + 1) x := by
  unfold f1
  by_cases h : x = (k : Int)
  · subst h
    rw [if_pos rfl, if_pos (by omega)]
    simp
  · rw [if_neg h]
    by_cases h2 : 0 ≤ x ∧ x < (k : Int)
    · rw [if_pos h2, if_pos (by omega)]
    · rw [if_neg h2, if_neg (by omega)]
/-- .. without these. -/
def f2 (al : List Int) (ws : List Int) : Int → Option Int := fun x => if x ∈ ws then none else f1 al al.length x
theorem f2_zero (al : List Int) (x : Int) : f1 al al.length x = f2 al [] x := by simp [f2]
theorem f2_step (al : List Int) (wh : List Int) {j : Nat} (h : j < wh.length) (x : Int) : (if x = wh.getD j 0 then none else f2 al (wh.take j) x) = f2 al (wh.take (j + 1)) x := by
  have e : wh.getD j 0 = wh[j] := by simp [List.getD_eq_getElem?_getD, h]
  have hm : x ∈ wh.take (j + 1) ↔ x ∈ wh.take j ∨ x = wh[j] := by rw [List.take_succ_eq_append_getElem h, List.mem_append, List.mem_singleton]
  unfold f2
  rw [e]
  by_cases h1 : x = wh[j]
  · rw [if_pos h1, if_pos (hm.2 (.inr h1))]
  · rw [if_neg h1]
    by_cases h2 : x ∈ wh.take j
    · rw [if_pos h2, if_pos (hm.2 (.inl h2))]
    · rw [if_neg h2, if_neg (fun q => (hm.1 q).elim h2 h1)]
theorem f2_some {al ws : List Int} {x c : Int} (h : f2 al ws x = some c) : 0 ≤ x ∧ x < (al.length : Int) ∧ x ∉ ws ∧ al.getD x.toNat 0 = c := by
  unfold f2 f1 at h
  split at h
  · cases h
  · split at h
    · rename_i h1 h2
      exact ⟨h2.1, h2.2, h1, by injection h⟩
    · cases h
theorem f2_in {al ws : List Int} {i : Nat} (h : i < al.length) (h1 : (i : Int) ∉ ws) : f2 al ws (i : Int) = some (al.getD i 0) := by
  unfold f2 f1
  rw [if_neg h1, if_pos (by omega)]
  simp
end
section
open Go.Proofs.Ytkceeifhnohioaa.Cents
set_option linter.unusedVariables false
set_option linter.unusedSimpArgs false

theorem list_same {xs ys : List Int} (hl : xs.length = ys.length) (h : ∀ i, i < xs.length → xs.getD i 0 = ys.getD i 0) : xs = ys := by
  apply List.ext_getElem hl
  intro i h1 h2
  have := h i h1
  simpa [List.getD_eq_getElem?_getD, h1, h2] using this
theorem getD_I {xs : List Int} (h : ∀ x ∈ xs, I64 x) {i : Nat} (hi : i < xs.length) : I64 (xs.getD i 0) := by
  rw [List.getD_eq_getElem?_getD, List.getElem?_eq_getElem hi]
  exact h _ (List.getElem_mem _)
theorem mem_I {xs : List Int} (h : ∀ i, i < xs.length → I64 (xs.getD i 0)) : ∀ x ∈ xs, I64 x := by
  intro x hx
  obtain ⟨i, hi, rfl⟩ := List.getElem_of_mem hx
  have := h i hi
  simpa [List.getD_eq_getElem?_getD, hi] using this
theorem leftN_eq {o s : Int} (h : leftE o s = 0) : leftN o s = o - s := by unfold leftN; rw [if_pos h]
theorem leftE_self {p s : Int} (hp : I64 p) (hs : s = p) : leftE p s = 0 := by
  subst hs
  unfold leftE
  rw [if_pos hp, if_pos (by unfold I64; omega)]
theorem all_good {p : Int} {al : List Int} (h : allE p al = 0) : 0 ≤ p ∧ outE p al = 0 ∧ allV p al = outV p al := by
  unfold allE at h
  by_cases c : p < 0
  · rw [if_pos c] at h; omega
  · rw [if_neg c] at h
    exact ⟨by omega, h, by unfold allV; rw [if_neg c]⟩
theorem outE_w {T T' : Int} {ws : List Int} (h : outE T ws = 0) (hT : T' ≠ -9223372036854775808) : outE T' ws = 0 := by
  unfold outE
  rw [if_pos (outE_ok h).1, if_neg hT]
theorem again_inv {t : Int} {d al : List Int} (h : againE t d al = 0) : d.length = al.length ∧ leftE t d.sum = 0 ∧ outE (leftN t d.sum) al = 0 ∧ (∀ i, i < (outV (leftN t d.sum) al).length → I64 ((outV (leftN t d.sum) al).getD i 0 + d.getD i 0)) ∧ againV t d al = mix (outV (leftN t d.sum) al) d al.length := by
  by_cases h1 : d.length = al.length
  · by_cases h2 : leftE t d.sum = 0
    · by_cases h3 : outE (leftN t d.sum) al = 0
      · by_cases h4 : ∀ i, i < (outV (leftN t d.sum) al).length → I64 ((outV (leftN t d.sum) al).getD i 0 + d.getD i 0)
        · exact ⟨h1, h2, h3, h4, (again_ok h1 h2 h3 h4).2⟩
        · exfalso
          unfold againE addsE at h
          rw [if_pos h1, if_pos h2, if_pos h3, if_neg h4] at h
          omega
      · have := (again_out h1 h2 h3).1; rw [this] at h; exact absurd h h3
    · have := (again_left h1 h2).1; rw [this] at h; omega
  · have := (again_len (t := t) h1).1; rw [this] at h; omega
theorem again_bad0 {t : Int} {d al : List Int} (h : againE t d al ≠ 0) : againV t d al = [] := by unfold againV; rw [if_neg h]
theorem some_bad0 {p : Int} {al wh : List Int} (h : someE p al wh ≠ 0) : someV p al wh = [] := by unfold someV; rw [if_neg h]
theorem all_bad0 {p : Int} {al : List Int} (h : allE p al ≠ 0) : allV p al = [] := by
  unfold allV allE at *
  by_cases c : p < 0
  · rw [if_pos c]
  · rw [if_neg c] at *; exact outV_bad h
theorem all_sum {p : Int} {al : List Int} (h : allE p al = 0) : (allV p al).length = al.length ∧ (allV p al).sum = p := by
  obtain ⟨_, h1, h2⟩ := all_good h
  rw [h2]
  exact ⟨(outV_good h1).len, (outV_good h1).sum⟩
theorem all_I {p : Int} {al : List Int} (hp : I64 p) : ∀ x ∈ allV p al, I64 x := by
  by_cases h : allE p al = 0
  · obtain ⟨_, h1, h2⟩ := all_good h
    rw [h2]; exact (outV_good h1).I hp
  · rw [all_bad0 h]; simp
theorem again_sum {t : Int} {d al : List Int} (h : againE t d al = 0) : (againV t d al).length = al.length ∧ (againV t d al).sum = t ∧ ∀ x ∈ againV t d al, I64 x := by
  obtain ⟨h1, h2, h3, h4, h5⟩ := again_inv h
  have hg := outV_good h3
  have hl := hg.len
  rw [h5]
  refine ⟨by rw [mix_len, hl], ?_, ?_⟩
  · rw [← hl, mix_sum (by rw [h1, hl]), hg.sum, leftN_eq h2]; omega
  · rw [← hl]
    refine mem_I fun i hi => ?_
    rw [mix_len] at hi
    rw [mix_all hi]
    exact h4 i hi
theorem again_stay {p : Int} {al : List Int} (hp : I64 p) (h : allE p al = 0) : againE p (allV p al) al = 0 ∧ againV p (allV p al) al = allV p al := by
  obtain ⟨h0, h1, h2⟩ := all_good h
  rw [h2]
  have hg := outV_good h1
  have hI := hg.I hp
  have e1 : leftE p (outV p al).sum = 0 := leftE_self hp hg.sum
  have e2 : leftN p (outV p al).sum = 0 := by rw [leftN_eq e1, hg.sum]; omega
  have e3 : outE 0 al = 0 := outE_w h1 (by decide)
  have gz := outV_good e3
  have hz : ∀ i, i < (outV 0 al).length → (outV 0 al).getD i 0 = 0 := fun i hi => by
    have := gz.up (Int.le_refl 0) i (by rw [← gz.len]; exact hi)
    omega
  have hok := again_ok (t := p) (d := outV p al) (al := al) hg.len e1 (by rw [e2]; exact e3) (by
    rw [e2]
    intro i hi
    rw [hz i hi, Int.zero_add]
    exact getD_I hI (by rw [hg.len]; rw [gz.len] at hi; exact hi))
  refine ⟨hok.1, hok.2.trans ?_⟩
  rw [e2, ← gz.len]
  refine list_same (by rw [mix_len, gz.len, hg.len]) fun i hi => ?_
  rw [mix_len] at hi
  rw [mix_all hi, hz i hi, Int.zero_add]
theorem again_more {p more : Int} {al : List Int} (hp : I64 p) (h : allE p al = 0) (h0 : 0 ≤ more) (h2 : againE (p + more) (allV p al) al = 0) : (againV (p + more) (allV p al) al).length = al.length ∧ ∀ i, i < al.length → (allV p al).getD i 0 ≤ (againV (p + more) (allV p al) al).getD i 0 := by
  have hs := (all_sum h).2
  obtain ⟨h1, h2, h3, h4, h5⟩ := again_inv h2
  have hg := outV_good h3
  have e : leftN (p + more) (allV p al).sum = more := by rw [leftN_eq h2, hs]; omega
  rw [e] at hg h3 h4 h5
  rw [h5]
  refine ⟨by rw [mix_len, hg.len], fun i hi => ?_⟩
  rw [← hg.len, mix_all (by rw [hg.len]; exact hi)]
  have := (hg.up h0 i hi).1
  omega
theorem self_out {ws : List Int} (h : outE ws.sum ws = 0) : outV ws.sum ws = ws := by
  have hg := outV_good h
  have h1 := (wE_ok (outE_ok h).1).2.2.1
  refine list_same hg.len fun i hi => ?_
  rw [hg.len] at hi
  have e1 : ws.sum * ws.getD i 0 / ws.sum = ws.getD i 0 := Int.mul_ediv_cancel_left _ (by omega)
  have e2 : ws.sum * ws.getD i 0 % ws.sum = 0 := Int.mul_emod_right _ _
  rcases hg.near i hi with q | q
  · rw [q, e1]
  · exact absurd e2 q.2
theorem some_inv {p : Int} {al wh : List Int} (h : someE p al wh = 0) : someG p al wh ∧ leftE p (al.sum - (pick al wh).sum) = 0 ∧ 0 ≤ leftN p (al.sum - (pick al wh).sum) ∧ outE (leftN p (al.sum - (pick al wh).sum)) (pick al wh) = 0 ∧ someV p al wh = lay al wh (outV (leftN p (al.sum - (pick al wh).sum)) (pick al wh)) := by
  by_cases h1 : someG p al wh
  · by_cases h2 : leftE p (al.sum - (pick al wh).sum) = 0
    · by_cases h3 : leftN p (al.sum - (pick al wh).sum) < 0
      · have := (some_neg h1 h2 h3).1; rw [this] at h; omega
      · by_cases h4 : outE (leftN p (al.sum - (pick al wh).sum)) (pick al wh) = 0
        · exact ⟨h1, h2, by omega, h4, (some_ok h1 h2 h3 h4).2⟩
        · have := (some_out h1 h2 h3 h4).1; rw [this] at h; exact absurd h h4
    · have := (some_left h1 h2).1; rw [this] at h; omega
  · have := (some_no h1).1; rw [this] at h; omega
theorem some_sum {p : Int} {al wh : List Int} (h : someE p al wh = 0) (hx : ∀ x ∈ al, I64 x) : (someV p al wh).length = al.length ∧ (someV p al wh).sum = p ∧ (∀ x ∈ someV p al wh, I64 x) ∧ (∀ x ∈ someV p al wh, 0 ≤ x) ∧ (∀ i : Nat, (i : Int) ∉ wh → (someV p al wh).getD i 0 = al.getD i 0) := by
  obtain ⟨h1, h2, h3, h4, h5⟩ := some_inv h
  have hg := outV_good h4
  have hr := h1.2.2
  rw [h5]
  have hl : wh.length = (outV (leftN p (al.sum - (pick al wh).sum)) (pick al wh)).length := by rw [hg.len, pick_len]
  refine ⟨lay_len _ _ _, ?_, fun x hx2 => ?_, fun x hx2 => ?_, fun i hi => lay_other _ _ _ _ (fun x hx => (hr.2.1 x hx).1) hi⟩
  · rw [lay_sum wh al _ hl hr.2.1 hr.2.2, hg.sum, leftN_eq h2]; omega
  · rcases lay_mem _ _ _ _ hx2 with q | q
    · exact hx x q
    · exact hg.I leftN_I x q
  · rcases lay_mem _ _ _ _ hx2 with q | q
    · exact h1.2.1 x q
    · obtain ⟨i, hi, rfl⟩ := List.getElem_of_mem q
      have := (hg.up h3 i (by rw [← hg.len]; exact hi)).1
      simpa [List.getD_eq_getElem?_getD, hi] using this
theorem some_self {al wh : List Int} (hI : I64 al.sum) (h : someE al.sum al wh = 0) : someV al.sum al wh = al := by
  obtain ⟨h1, h2, h3, h4, h5⟩ := some_inv h
  have e : leftN al.sum (al.sum - (pick al wh).sum) = (pick al wh).sum := by rw [leftN_eq h2]; omega
  rw [e] at h4 h5
  rw [h5, self_out h4]
  exact lay_pick wh al h1.2.2.2.1 h1.2.2.2.2
theorem all_self {al : List Int} (h1 : ∀ x ∈ al, 1 ≤ x) (h0 : al ≠ []) (h64 : al.length ≤ 64) (hI : I64 al.sum) : allE al.sum al = 0 ∧ allV al.sum al = al := by
  have hp : 0 ≤ al.sum := by
    have : ∀ l : List Int, (∀ x ∈ l, 1 ≤ x) → 0 ≤ l.sum := fun l => by
      induction l with
      | nil => intro _; simp
      | cons a l ih => intro h; rw [List.sum_cons]; have := h a (by simp); have := ih (fun x hx => h x (by simp [hx])); omega
    exact this al h1
  have hw : wE al = 0 := by
    unfold wE
    rw [if_neg (by omega), if_neg (by
      simp only [List.any_eq_true, decide_eq_true_eq, not_exists, not_and]
      intro x hx
      have := h1 x hx
      omega), if_pos (by
      obtain ⟨x, hx⟩ := List.exists_mem_of_ne_nil _ h0
      rw [List.any_eq_true]
      exact ⟨x, hx, by have := h1 x hx; simp; omega⟩)]
    unfold sumE
    rw [if_pos hI]
  have he : outE al.sum al = 0 := by unfold outE; rw [if_pos hw, if_neg (by omega)]
  refine ⟨by unfold allE; rw [if_neg (by omega), he], ?_⟩
  unfold allV
  rw [if_neg (by omega), self_out he]
theorem all_seven {p : Int} (h : 0 ≤ p) : allE p [7] = 0 ∧ allV p [7] = [p] := by
  have he : outE p [7] = 0 := by unfold outE; rw [if_pos (by decide), if_neg (by omega)]
  have h1 : allE p [7] = 0 := by unfold allE; rw [if_neg (by omega), he]
  refine ⟨h1, ?_⟩
  obtain ⟨h2, h3⟩ := all_sum h1
  generalize allV p [7] = V at *
  match V, h2, h3 with
  | [x], _, h3 => simp at h3; rw [h3]
end
end Go.Proofs.Ytkceeifhnohioaa.PO
