/- A line's numbers are of their kind. -/
import Derived.Test.YtbdhbongaikphaaBookG
namespace Go.Proofs.Ytbdhbongaikphaa.BK
open Go.RowKit Go.Proofs.Ytbdhbongaikphaa.Cents

def LnI (x : Ln) : Prop := I64 x.item ∧ I64 x.units ∧ I64 x.charge ∧ I64 x.first ∧ I64 x.last
end Go.Proofs.Ytbdhbongaikphaa.BK
