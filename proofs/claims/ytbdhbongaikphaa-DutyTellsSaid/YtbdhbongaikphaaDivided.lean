/- The walk of cents.divided (a goto): a size times a part, by a whole, bit by bit. -/
import Derived.Test.YtbdhbongaikphaaProg
import Derived.WalkKit
import Derived.WalkSpells
import Derived.WalkLawsBesides
import Derived.Lib.Hide
import Derived.BigQuiet
import Derived.Deep.QuietTactic
import Derived.Test.YtbdhbongaikphaaScopeTwo
import Derived.Test.YtbdhbongaikphaaCentsMath
namespace Go.Proofs.Ytbdhbongaikphaa.Cents
open Go.RowKit
set_option linter.unusedVariables false
set_option linter.unusedSimpArgs false

/-- At the label 'next': n bits are to come. -/
def AtNext (a p m : Nat) (w0 : World) (x : Act) (w : World) : Prop := (∃ d, w = w0.drewN d) ∧ ∃ (n : Nat) (q r : Int) (u12 u13 u14 u15 u16 u17 u18 u19 u20 u21 u22 u23 u24 u25 u26 u27 u28 u29 u30 u31 u32 u33 u34 u35 u36 u37 u38 u39 u40 u41 u42 u43 u44 u45 u46 u47 u48 u49 u50 u51 u52 u53 u54 u55 u56 u57 u58 u59 u60 u61 u62 u63 : Value), n ≤ 64 ∧ CM.Sz a p m n q r ∧
  x = { tmps := #[.int .u64 (a : Int), .int .u64 (p : Int), .int .u64 (m : Int), undef, undef, undef, .int .u64 q, .int .u64 r, .bool false, .int .u64 ((a / m : Nat) : Int), .int .u64 ((a % m : Nat) : Int), .int .i64 ((n : Int) - 1), u12, u13, u14, u15, u16, u17, u18, u19, u20, u21, u22, u23, u24, u25, u26, u27, u28, u29, u30, u31, u32, u33, u34, u35, u36, u37, u38, u39, u40, u41, u42, u43, u44, u45, u46, u47, u48, u49, u50, u51, u52, u53, u54, u55, u56, u57, u58, u59, u60, u61, u62, u63], defers := [] }
/-- At the label 'over': it doesn't fit. -/
def AtOver (a p m : Nat) (w0 : World) (x : Act) (w : World) : Prop := (∃ d, w = w0.drewN d) ∧ 2 ^ 64 ≤ a * p / m ∧ ∃ (uq ur ub u12 u13 u14 u15 u16 u17 u18 u19 u20 u21 u22 u23 u24 u25 u26 u27 u28 u29 u30 u31 u32 u33 u34 u35 u36 u37 u38 u39 u40 u41 u42 u43 u44 u45 u46 u47 u48 u49 u50 u51 u52 u53 u54 u55 u56 u57 u58 u59 u60 u61 u62 u63 : Value),
  x = { tmps := #[.int .u64 (a : Int), .int .u64 (p : Int), .int .u64 (m : Int), undef, undef, undef, uq, ur, .bool false, .int .u64 ((a / m : Nat) : Int), .int .u64 ((a % m : Nat) : Int), ub, u12, u13, u14, u15, u16, u17, u18, u19, u20, u21, u22, u23, u24, u25, u26, u27, u28, u29, u30, u31, u32, u33, u34, u35, u36, u37, u38, u39, u40, u41, u42, u43, u44, u45, u46, u47, u48, u49, u50, u51, u52, u53, u54, u55, u56, u57, u58, u59, u60, u61, u62, u63], defers := [] }
def divv (a p m : Nat) : Value := if a * p / m < 2 ^ 64 then .tuple #[.int .u64 ((a * p / m : Nat) : Int), .int .u64 ((a * p % m : Nat) : Int), .bool true] else .tuple #[.int .u64 0, .int .u64 0, .bool false]

set_option maxHeartbeats 1000000 in
set_option maxRecDepth 100000 in
theorem divided_any (a p m : Nat) (w : World) (hm : 0 < m) (hm2 : m ≤ 2 ^ 63) (ha : a < 2 ^ 64) (hp : p < 2 ^ 64) :
    Calls Try.prog 44 #[.int .u64 (a : Int), .int .u64 (p : Int), .int .u64 (m : Int)] w fun e w' => e = .returned (divv a p m) ∧ ∃ n, w' = w.drewN n := by
  have hm1 : (1 : Int) ≤ (m : Int) := by omega
  have hm0 : ((m : Int) == 0) = false := by simp; omega
  go_enter Try.func44, Try.ntmps44
  go_wp2
  refine wp_scope_two 0 1 (AtNext a p m w) (AtOver a p m w) (fun x _ => (intOf (x.tmps.getD 11 undef) + 1).toNat) rfl rfl ?_ ?_ ?_
  · rintro x w' ⟨⟨d, rfl⟩, hov, uq, ur, ub, u12, u13, u14, u15, u16, u17, u18, u19, u20, u21, u22, u23, u24, u25, u26, u27, u28, u29, u30, u31, u32, u33, u34, u35, u36, u37, u38, u39, u40, u41, u42, u43, u44, u45, u46, u47, u48, u49, u50, u51, u52, u53, u54, u55, u56, u57, u58, u59, u60, u61, u62, u63, rfl⟩
    clear hm0
    go_wp2
    rw [Exit.noGoto_ret]
    go_ret3
    exact ⟨by unfold divv; rw [if_neg (by omega)]; rfl, d, rfl⟩
  · rintro x w' ⟨⟨d, rfl⟩, n, q, r, u12, u13, u14, u15, u16, u17, u18, u19, u20, u21, u22, u23, u24, u25, u26, u27, u28, u29, u30, u31, u32, u33, u34, u35, u36, u37, u38, u39, u40, u41, u42, u43, u44, u45, u46, u47, u48, u49, u50, u51, u52, u53, u54, u55, u56, u57, u58, u59, u60, u61, u62, u63, hn, hst, rfl⟩
    have q0 := hst.q0
    have r0 := hst.r0
    have rm := hst.rm
    have a0 : 0 ≤ (a : Int) % m := Int.emod_nonneg _ (by omega)
    have a1 : (a : Int) % m < m := Int.emod_lt_of_pos _ (by omega)
    have a2 : 0 ≤ (a : Int) / m := Int.ediv_nonneg (by omega) (by omega)
    have m2 : (m : Int) ≤ 9223372036854775808 := by omega
    rcases n with _ | k
    · obtain ⟨e1, e2, hf⟩ := CM.sz_end hm hst
      have E1 := Lib.hid e1
      have E2 := Lib.hid e2
      have HF := Lib.hid hf
      clear hst hm0 ha hp hm2 e1 e2 hf a0 a1 a2 m2
      go_wp2
      simp only [jump2]
      go_ret3
      exact ⟨by unfold divv; rw [if_pos HF.out, ← E1.out, ← E2.out]; rfl, d, rfl⟩
    · have HS := Lib.hid hst
      have Ha := Lib.hid ha
      have Hp := Lib.hid hp
      have Hm2 := Lib.hid hm2
      clear hst hm0 ha hp hm2
      go_wp2
      all_goals go_step3
      all_goals first
        | (refine .inr ⟨rfl, ⟨d, rfl⟩, ?_, _, _, _, _, _, _, _, _, _, _, _, _, _, _, _, _, _, _, _, _, _, _, _, _, _, _, _, _, _, _, _, _, _, _, _, _, _, _, _, _, _, _, _, _, _, _, _, _, _, _, _, _, _, _, _, rfl⟩; exact CM.over_top hm HS.out ‹_›)
        | (refine .inr ⟨rfl, ⟨d, rfl⟩, ?_, _, _, _, _, _, _, _, _, _, _, _, _, _, _, _, _, _, _, _, _, _, _, _, _, _, _, _, _, _, _, _, _, _, _, _, _, _, _, _, _, _, _, _, _, _, _, _, _, _, _, _, _, _, _, _, rfl⟩; first
            | exact CM.over1 hm Ha.out Hp.out HS.out ‹_› ‹_› (if_pos ‹_›).symm ‹_›
            | exact CM.over1 hm Ha.out Hp.out HS.out ‹_› ‹_› (if_neg (by omega)).symm ‹_›
            | exact CM.over2 hm Ha.out Hp.out HS.out ‹_› ‹_› (if_pos ‹_›).symm (if_pos ‹_›).symm ‹_› ‹_› ‹_›
            | exact CM.over2 hm Ha.out Hp.out HS.out ‹_› ‹_› (if_neg (by omega)).symm (if_neg (by omega)).symm ‹_› ‹_› ‹_›)
        | (refine .inl ⟨rfl, ⟨⟨d, rfl⟩, k, _, _, _, _, _, _, _, _, _, _, _, _, _, _, _, _, _, _, _, _, _, _, _, _, _, _, _, _, _, _, _, _, _, _, _, _, _, _, _, _, _, _, _, _, _, _, _, _, _, _, _, _, _, _, ?_, ?_, rfl⟩, ?_⟩
           · omega
           · first
               | exact CM.next1 hm Ha.out Hp.out HS.out ‹_› ‹_› (if_pos ‹_›).symm (if_pos ‹_›).symm ‹_› ‹_› ‹_›
               | exact CM.next1 hm Ha.out Hp.out HS.out ‹_› ‹_› (if_neg (by omega)).symm (if_neg (by omega)).symm ‹_› ‹_› ‹_›
               | exact CM.next2 hm Ha.out Hp.out HS.out ‹_› ‹_› (if_pos ‹_›).symm (if_pos ‹_›).symm ‹_› ‹_›
               | exact CM.next2 hm Ha.out Hp.out HS.out ‹_› ‹_› (if_neg (by omega)).symm (if_neg (by omega)).symm ‹_› ‹_›
               | exact CM.next0 Hp.out HS.out ‹_› ‹_› (if_pos ‹_›).symm (if_pos ‹_›).symm
               | exact CM.next0 Hp.out HS.out ‹_› ‹_› (if_neg (by omega)).symm (if_neg (by omega)).symm
           · first | (simp [intOf]; done) | (simp [intOf]; omega))
  · intro H
    have HS : Hid (CM.Sz a p m 64 0 0) := CM.sz_start hm hp
    have a2 : 0 ≤ (a : Int) / m := Int.ediv_nonneg (by omega) (by omega)
    have ew : IntKind.u64.wrap ((a : Int) / m) = ((a / m : Nat) : Int) := by
      have : a / m ≤ a := Nat.div_le_self _ _
      have : ((a / m : Nat) : Int) = (a : Int) / m := by simp
      rw [← this, CM.u64wrap]; omega
    have H := Lib.hid H
    go_wp2
    go_quiet (fail)
    go_wp2
    go_step3
    rename_i K hK
    refine hK _ _ ?_
    exact H.out _ _ ⟨⟨nq, rfl⟩, 64, 0, 0, _, _, _, _, _, _, _, _, _, _, _, _, _, _, _, _, _, _, _, _, _, _, _, _, _, _, _, _, _, _, _, _, _, _, _, _, _, _, _, _, _, _, _, _, _, _, _, _, _, _, _, _, by omega, HS, rfl⟩
end Go.Proofs.Ytbdhbongaikphaa.Cents
