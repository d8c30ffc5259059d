/- The walk of cents.divided (a goto): a size times a part, by a whole, bit by bit. -/
import Derived.Test.YtmijcgcppankcaaProg
import Derived.WalkKit
import Derived.WalkSpells
import Derived.WalkLawsBesides
import Derived.Lib.Hide
import Derived.BigQuiet
import Derived.Deep.QuietTactic
import Derived.Test.YtmijcgcppankcaaScopeTwo
import Derived.Test.YtmijcgcppankcaaCentsMath
namespace Go.Proofs.Ytmijcgcppankcaa.Cents
open Go.RowKit
set_option linter.unusedVariables false
set_option linter.unusedSimpArgs false

/-- At the label 'next': n bits are to come. -/
def AtNext (a p m : Nat) (w0 : World) (x : Act) (w : World) : Prop := (∃ d, w = w0.drewN d) ∧ ∃ (n : Nat) (q r : Int) (u12 u13 u14 u15 u16 u17 u18 u19 u20 u21 u22 u23 u24 u25 u26 u27 u28 u29 u30 u31 u32 u33 u34 u35 u36 u37 u38 u39 u40 u41 u42 u43 u44 u45 u46 u47 u48 u49 u50 u51 u52 u53 u54 u55 u56 u57 u58 u59 u60 u61 u62 u63 : Value), n ≤ 64 ∧ CM.Sz a p m n q r ∧
  x = { tmps := #[.int .u64 (a : Int), .int .u64 (p : Int), .int .u64 (m : Int), undef, undef, undef, .int .u64 q, .int .u64 r, .bool false, .int .u64 ((a / m : Nat) : Int), .int .u64 ((a % m : Nat) : Int), .int .i64 ((n : Int) - 1), u12, u13, u14, u15, u16, u17, u18, u19, u20, u21, u22, u23, u24, u25, u26, u27, u28, u29, u30, u31, u32, u33, u34, u35, u36, u37, u38, u39, u40, u41, u42, u43, u44, u45, u46, u47, u48, u49, u50, u51, u52, u53, u54, u55, u56, u57, u58, u59, u60, u61, u62, u63], defers := [] }
/-- At the label 'over': it doesn't fit. -/
def AtOver (a p m : Nat) (w0 : World) (x : Act) (w : World) : Prop := (∃ d, w = w0.drewN d) ∧ 2 ^ 64 ≤ a * p / m ∧ ∃ (uq ur ub u12 u13 u14 u15 u16 u17 u18 u19 u20 u21 u22 u23 u24 u25 u26 u27 u28 u29 u30 u31 u32 u33 u34 u35 u36 u37 u38 u39 u40 u41 u42 u43 u44 u45 u46 u47 u48 u49 u50 u51 u52 u53 u54 u55 u56 u57 u58 u59 u60 u61 u62 u63 : Value),
  x = { tmps := #[.int .u64 (a : Int), .int .u64 (p : Int), .int .u64 (m : Int), undef, undef, undef, uq, ur, .bool false, .int .u64 ((a / m : Nat) : Int), .int .u64 ((a % m : Nat) : Int), ub, u12, u13, u14, u15, u16, u17, u18, u19, u20, u21, u22, u23, u24, u25, u26, u27, u28, u29, u30, u31, u32, u33, u34, u35, u36, u37, u38, u39, u40, u41, u42, u43, u44, u45, u46, u47, u48, u49, u50, u51, u52, u53, u54, u55, u56, u57, u58, u59, u60, u61, u62, u63], defers := [] }
def divv (a p m : Nat) : Value := if a * p / m < 2 ^ 64 then .tuple #[.int .u64 ((a * p / m : Nat) : Int), .int .u64 ((a * p % m : Nat) : Int), .bool true] else .tuple #[.int .u64 0, .int .u64 0, .bool false]

end Go.Proofs.Ytmijcgcppankcaa.Cents
