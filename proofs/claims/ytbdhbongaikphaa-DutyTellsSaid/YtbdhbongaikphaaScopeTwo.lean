/- A scope with two labels to which the run jumps: what holds at each jump, and a measure that every pass from the first label lowers. Over any program. -/
import Derived.ScopeJumps
namespace Go.Proofs.Ytbdhbongaikphaa
open Go

/-- As Q; by a goto to label l: J1; by a goto to label m: J2; by any other goto: no way out. -/
def jump2 (l m : Nat) (J1 J2 : Act → World → Prop) (Q : Exit → Act → World → Prop) : Exit → Act → World → Prop
  | .goto x, a, w => (x = l ∧ J1 a w) ∨ (x = m ∧ J2 a w)
  | e, a, w => Q e a w

theorem wp_scope_two {P : Program} {a : Act} {w : World} {Q : Exit → Act → World → Prop} {c c1 rest2 : Code} (l m : Nat) (J1 J2 : Act → World → Prop) (μ1 : Act → World → Nat)
    (hf1 : findLabel c l = some (.seq .skip c1)) (hf2 : findLabel c m = some rest2)
    (pass2 : ∀ a w, J2 a w → rest2.wp P (Exit.noGoto Q) a w)
    (pass1 : ∀ a w, J1 a w → c1.wp P (jump2 l m (fun a' w' => J1 a' w' ∧ μ1 a' w' < μ1 a w) J2 Q) a w)
    (first : (∀ a w, J1 a w → c1.wp P (jump2 l m J1 J2 Q) a w) → c.wp P (jump2 l m J1 J2 Q) a w) : (Code.scope c).wp P Q a w := by
  intro b k cs
  have hg1 : gotoIn l (.inScope c :: k) = some (.code (.seq .skip c1) :: .inScope c :: k) := by simp [gotoIn, hf1]
  have hg2 : gotoIn m (.inScope c :: k) = some (.code rest2 :: .inScope c :: k) := by simp [gotoIn, hf2]
  have key2 : ∀ a w, J2 a w → ∃ e a' w', Q e a' w' ∧ Arrives P (lone (b.at a (.code rest2 :: .inScope c :: k)) cs w) b k cs e a' w' := by
    intro a w hJ
    obtain ⟨e, a₁, w₁, hq, harr⟩ := pass2 a w hJ b (.inScope c :: k) cs
    cases e with
    | normal => exact ⟨.normal, a₁, w₁, hq, Steps.trans harr (.one step_inScope)⟩
    | exit id => exact ⟨.exit id, a₁, w₁, hq, fun k' hk => harr k' (by simp [exitTo, hk])⟩
    | goto l' => exact hq.elim
    | ret => exact ⟨_, a₁, w₁, hq, harr⟩
    | panic ch => exact ⟨_, a₁, w₁, hq, harr⟩
    | outgrown => exact ⟨_, a₁, w₁, hq, harr⟩
  have key1 : ∀ n a w, μ1 a w = n → J1 a w → ∃ e a' w', Q e a' w' ∧ Arrives P (lone (b.at a (.code (.seq .skip c1) :: .inScope c :: k)) cs w) b k cs e a' w' := by
    intro n
    induction n using Nat.strongRecOn with
    | _ n ih =>
      intro a w hn hJ
      obtain ⟨e, a₁, w₁, hq, harr⟩ := wp_seq (wp_skip (pass1 a w hJ)) b (.inScope c :: k) cs
      cases e with
      | normal => exact ⟨.normal, a₁, w₁, hq, Steps.trans harr (.one step_inScope)⟩
      | exit id => exact ⟨.exit id, a₁, w₁, hq, fun k' hk => harr k' (by simp [exitTo, hk])⟩
      | goto l' =>
        rcases hq with ⟨rfl, hJ', hlt⟩ | ⟨rfl, hJ'⟩
        · obtain ⟨e₂, a₂, w₂, hq₂, harr₂⟩ := ih _ (by omega) a₁ w₁ rfl hJ'
          exact ⟨e₂, a₂, w₂, hq₂, .of_steps (harr _ hg1) harr₂⟩
        · obtain ⟨e₂, a₂, w₂, hq₂, harr₂⟩ := key2 a₁ w₁ hJ'
          exact ⟨e₂, a₂, w₂, hq₂, .of_steps (harr _ hg2) harr₂⟩
      | ret => exact ⟨_, a₁, w₁, hq, harr⟩
      | panic ch => exact ⟨_, a₁, w₁, hq, harr⟩
      | outgrown => exact ⟨_, a₁, w₁, hq, harr⟩
  have weak : ∀ a w, J1 a w → c1.wp P (jump2 l m J1 J2 Q) a w := fun a w hJ => Code.wp_mono (fun e a' w' q => by
    cases e with
    | goto x => rcases q with ⟨h1, h2, _⟩ | h
                · exact .inl ⟨h1, h2⟩
                · exact .inr h
    | _ => exact q) (pass1 a w hJ)
  obtain ⟨e, a₁, w₁, hq, harr⟩ := first weak b (.inScope c :: k) cs
  cases e with
  | normal => exact ⟨.normal, a₁, w₁, hq, .head step_scope (Steps.trans harr (.one step_inScope))⟩
  | exit id => exact ⟨.exit id, a₁, w₁, hq, fun k' hk => .head step_scope (harr k' (by simp [exitTo, hk]))⟩
  | goto l' =>
    rcases hq with ⟨rfl, hJ'⟩ | ⟨rfl, hJ'⟩
    · obtain ⟨e₂, a₂, w₂, hq₂, harr₂⟩ := key1 _ a₁ w₁ rfl hJ'
      exact ⟨e₂, a₂, w₂, hq₂, .of_steps (.head step_scope (harr _ hg1)) harr₂⟩
    · obtain ⟨e₂, a₂, w₂, hq₂, harr₂⟩ := key2 a₁ w₁ hJ'
      exact ⟨e₂, a₂, w₂, hq₂, .of_steps (.head step_scope (harr _ hg2)) harr₂⟩
  | ret => exact ⟨_, a₁, w₁, hq, .of_steps (.one step_scope) harr⟩
  | panic ch => exact ⟨_, a₁, w₁, hq, .of_steps (.one step_scope) harr⟩
  | outgrown => exact ⟨_, a₁, w₁, hq, .of_steps (.one step_scope) harr⟩
end Go.Proofs.Ytbdhbongaikphaa
