/-
  No cell of these rows narrows 'for every input' (looked for: loops, veiled, ifaces, maps, wideKeys, modest, calm, conditions, laid).
  DERIVED. THE GIVEN ROWS OF THIS SEAT. 10 by the template 'for every input the law returns true; each argument reads behind the call as it read before'; 0 by the template 'total and deterministic' (their statements: YtdapcahphaldjaaTotals.lean).
  GIVEN WITH THE SEED: the statements are not yours to turn. If you find one false, say at which input.
  Laid BY PROGRAM, IN A SANDBOX (cutbox-rows.mjs): the forced cells as the released guide's own fill.sh prints them over the translation 1fa7e57b429e4553… (all of the seat's roots in one cut). By AI agents, Wed Nov 11 2026. No macro, syntax, notation, axiom, sorry.
-/
import Derived.Test.YtdapcahphaldjaaChecked
import GoSem.Claim
import GoSem.ClaimJoined
import GoSem.ClaimMapViews
import Derived.JoinedTies
import Derived.KernelRfl
namespace Go.Proofs.Ytdapcahphaldjaa
/- THE CELL 'sum', in the pinned program and in every row, IS THE sha256 OF THE DUMP (.gsa) THAT YtdapcahphaldjaaProg.lean LOADS. Nothing in Lean hashes anything: it is a label: what it is worth is what the hold of that sum in a sandbox is worth. -/
noncomputable def Try.pinned : Pinned := { name := "ytdapcahphaldjaa", sum := "1fa7e57b429e45532d98a4767eeca4acad883b2c6f2aa59697ca48ea89c86be3", checked := Try.checked }
namespace Rows
def none {H : Type} : Left H := { results := [], args := [] }

/-- 'quitrentlaw05.StoreDoes': WHATEVER THE INPUT: true; the input reads as it did. -/
def storeDoesSpec : ChangeSpec := { name := "storeDoes", fn := fun _ => fun
  | [d1, d2] => { results := [.lit (.bool true)], args := [d1, d2] }
  | _ => none }
def storeDoesRow : OpenClaim := { program := "ytdapcahphaldjaa", sum := "1fa7e57b429e45532d98a4767eeca4acad883b2c6f2aa59697ca48ea89c86be3", func := "quitrent/quitrentlaw05.StoreDoes", spec := "storeDoes", apart := false }
def StoreDoesSaid : Prop := storeDoesRow.holds Try.pinned (OpenSpec.ofChange storeDoesSpec)

/-- ITS FALSE NEIGHBOUR: 'it returns false'. Refute it at one input. -/
def storeDoesWrong : ChangeSpec := { name := "storeDoes", fn := fun _ => fun
  | [d1, d2] => { results := [.lit (.bool false)], args := [d1, d2] }
  | _ => none }
def StoreDoesWrongFalsely : Prop := storeDoesRow.holds Try.pinned (OpenSpec.ofChange storeDoesWrong)

/-- 'quitrentlaw05.StoreKeeps': WHATEVER THE INPUT: true; the input reads as it did. -/
def storeKeepsSpec : ChangeSpec := { name := "storeKeeps", fn := fun _ => fun
  | [d1, d2, d3] => { results := [.lit (.bool true)], args := [d1, d2, d3] }
  | _ => none }
def storeKeepsRow : OpenClaim := { program := "ytdapcahphaldjaa", sum := "1fa7e57b429e45532d98a4767eeca4acad883b2c6f2aa59697ca48ea89c86be3", func := "quitrent/quitrentlaw05.StoreKeeps", spec := "storeKeeps", apart := false }
def StoreKeepsSaid : Prop := storeKeepsRow.holds Try.pinned (OpenSpec.ofChange storeKeepsSpec)

/-- ITS FALSE NEIGHBOUR: 'it returns false'. Refute it at one input. -/
def storeKeepsWrong : ChangeSpec := { name := "storeKeeps", fn := fun _ => fun
  | [d1, d2, d3] => { results := [.lit (.bool false)], args := [d1, d2, d3] }
  | _ => none }
def StoreKeepsWrongFalsely : Prop := storeKeepsRow.holds Try.pinned (OpenSpec.ofChange storeKeepsWrong)

/-- 'quitrentlaw17.NetTells': WHATEVER THE INPUT: true; the input reads as it did. -/
def netTellsSpec : ChangeSpec := { name := "netTells", fn := fun _ => fun
  | [d1, d2, d3, d4] => { results := [.lit (.bool true)], args := [d1, d2, d3, d4] }
  | _ => none }
def netTellsRow : OpenClaim := { program := "ytdapcahphaldjaa", sum := "1fa7e57b429e45532d98a4767eeca4acad883b2c6f2aa59697ca48ea89c86be3", func := "quitrent/quitrentlaw17.NetTells", spec := "netTells", unfollowed := true, recurses := true, apart := false }
def NetTellsSaid : Prop := netTellsRow.holds Try.pinned (OpenSpec.ofChange netTellsSpec)

/-- ITS FALSE NEIGHBOUR: 'it returns false'. Refute it at one input. -/
def netTellsWrong : ChangeSpec := { name := "netTells", fn := fun _ => fun
  | [d1, d2, d3, d4] => { results := [.lit (.bool false)], args := [d1, d2, d3, d4] }
  | _ => none }
def NetTellsWrongFalsely : Prop := netTellsRow.holds Try.pinned (OpenSpec.ofChange netTellsWrong)

/-- 'quitrentlaw17.NetMoves': WHATEVER THE INPUT: true; the input reads as it did. -/
def netMovesSpec : ChangeSpec := { name := "netMoves", fn := fun _ => fun
  | [d1, d2, d3, d4] => { results := [.lit (.bool true)], args := [d1, d2, d3, d4] }
  | _ => none }
def netMovesRow : OpenClaim := { program := "ytdapcahphaldjaa", sum := "1fa7e57b429e45532d98a4767eeca4acad883b2c6f2aa59697ca48ea89c86be3", func := "quitrent/quitrentlaw17.NetMoves", spec := "netMoves", unfollowed := true, recurses := true, apart := false }
def NetMovesSaid : Prop := netMovesRow.holds Try.pinned (OpenSpec.ofChange netMovesSpec)

/-- ITS FALSE NEIGHBOUR: 'it returns false'. Refute it at one input. -/
def netMovesWrong : ChangeSpec := { name := "netMoves", fn := fun _ => fun
  | [d1, d2, d3, d4] => { results := [.lit (.bool false)], args := [d1, d2, d3, d4] }
  | _ => none }
def NetMovesWrongFalsely : Prop := netMovesRow.holds Try.pinned (OpenSpec.ofChange netMovesWrong)

/-- 'quitrentlaw17.NetBack': WHATEVER THE INPUT: true; the input reads as it did. -/
def netBackSpec : ChangeSpec := { name := "netBack", fn := fun _ => fun
  | [d1, d2, d3] => { results := [.lit (.bool true)], args := [d1, d2, d3] }
  | _ => none }
def netBackRow : OpenClaim := { program := "ytdapcahphaldjaa", sum := "1fa7e57b429e45532d98a4767eeca4acad883b2c6f2aa59697ca48ea89c86be3", func := "quitrent/quitrentlaw17.NetBack", spec := "netBack", unfollowed := true, recurses := true, apart := false }
def NetBackSaid : Prop := netBackRow.holds Try.pinned (OpenSpec.ofChange netBackSpec)

/-- ITS FALSE NEIGHBOUR: 'it returns false'. Refute it at one input. -/
def netBackWrong : ChangeSpec := { name := "netBack", fn := fun _ => fun
  | [d1, d2, d3] => { results := [.lit (.bool false)], args := [d1, d2, d3] }
  | _ => none }
def NetBackWrongFalsely : Prop := netBackRow.holds Try.pinned (OpenSpec.ofChange netBackWrong)

/-- 'quitrentlaw17.NetEven': WHATEVER THE INPUT: true; the input reads as it did. -/
def netEvenSpec : ChangeSpec := { name := "netEven", fn := fun _ => fun
  | [d1, d2, d3, d4] => { results := [.lit (.bool true)], args := [d1, d2, d3, d4] }
  | _ => none }
def netEvenRow : OpenClaim := { program := "ytdapcahphaldjaa", sum := "1fa7e57b429e45532d98a4767eeca4acad883b2c6f2aa59697ca48ea89c86be3", func := "quitrent/quitrentlaw17.NetEven", spec := "netEven", unfollowed := true, recurses := true, apart := false }
def NetEvenSaid : Prop := netEvenRow.holds Try.pinned (OpenSpec.ofChange netEvenSpec)

/-- ITS FALSE NEIGHBOUR: 'it returns false'. Refute it at one input. -/
def netEvenWrong : ChangeSpec := { name := "netEven", fn := fun _ => fun
  | [d1, d2, d3, d4] => { results := [.lit (.bool false)], args := [d1, d2, d3, d4] }
  | _ => none }
def NetEvenWrongFalsely : Prop := netEvenRow.holds Try.pinned (OpenSpec.ofChange netEvenWrong)

/-- 'quitrentlaw01.CentsSums': WHATEVER THE INPUT: true; the input reads as it did. -/
def centsSumsSpec : ChangeSpec := { name := "centsSums", fn := fun _ => fun
  | [d1, d2, d3, d4] => { results := [.lit (.bool true)], args := [d1, d2, d3, d4] }
  | _ => none }
def centsSumsRow : OpenClaim := { program := "ytdapcahphaldjaa", sum := "1fa7e57b429e45532d98a4767eeca4acad883b2c6f2aa59697ca48ea89c86be3", func := "quitrent/quitrentlaw01.CentsSums", spec := "centsSums", recurses := true, apart := false }
def CentsSumsSaid : Prop := centsSumsRow.holds Try.pinned (OpenSpec.ofChange centsSumsSpec)

/-- ITS FALSE NEIGHBOUR: 'it returns false'. Refute it at one input. -/
def centsSumsWrong : ChangeSpec := { name := "centsSums", fn := fun _ => fun
  | [d1, d2, d3, d4] => { results := [.lit (.bool false)], args := [d1, d2, d3, d4] }
  | _ => none }
def CentsSumsWrongFalsely : Prop := centsSumsRow.holds Try.pinned (OpenSpec.ofChange centsSumsWrong)

/-- 'quitrentlaw01.CentsParts': WHATEVER THE INPUT: true; the input reads as it did. -/
def centsPartsSpec : ChangeSpec := { name := "centsParts", fn := fun _ => fun
  | [d1, d2, d3] => { results := [.lit (.bool true)], args := [d1, d2, d3] }
  | _ => none }
def centsPartsRow : OpenClaim := { program := "ytdapcahphaldjaa", sum := "1fa7e57b429e45532d98a4767eeca4acad883b2c6f2aa59697ca48ea89c86be3", func := "quitrent/quitrentlaw01.CentsParts", spec := "centsParts", recurses := true, apart := false }
def CentsPartsSaid : Prop := centsPartsRow.holds Try.pinned (OpenSpec.ofChange centsPartsSpec)

/-- ITS FALSE NEIGHBOUR: 'it returns false'. Refute it at one input. -/
def centsPartsWrong : ChangeSpec := { name := "centsParts", fn := fun _ => fun
  | [d1, d2, d3] => { results := [.lit (.bool false)], args := [d1, d2, d3] }
  | _ => none }
def CentsPartsWrongFalsely : Prop := centsPartsRow.holds Try.pinned (OpenSpec.ofChange centsPartsWrong)

/-- 'quitrentlaw01.CentsRises': WHATEVER THE INPUT: true; the input reads as it did. -/
def centsRisesSpec : ChangeSpec := { name := "centsRises", fn := fun _ => fun
  | [d1, d2, d3, d4] => { results := [.lit (.bool true)], args := [d1, d2, d3, d4] }
  | _ => none }
def centsRisesRow : OpenClaim := { program := "ytdapcahphaldjaa", sum := "1fa7e57b429e45532d98a4767eeca4acad883b2c6f2aa59697ca48ea89c86be3", func := "quitrent/quitrentlaw01.CentsRises", spec := "centsRises", apart := false }
def CentsRisesSaid : Prop := centsRisesRow.holds Try.pinned (OpenSpec.ofChange centsRisesSpec)

/-- ITS FALSE NEIGHBOUR: 'it returns false'. Refute it at one input. -/
def centsRisesWrong : ChangeSpec := { name := "centsRises", fn := fun _ => fun
  | [d1, d2, d3, d4] => { results := [.lit (.bool false)], args := [d1, d2, d3, d4] }
  | _ => none }
def CentsRisesWrongFalsely : Prop := centsRisesRow.holds Try.pinned (OpenSpec.ofChange centsRisesWrong)

/-- 'quitrentlaw01.CentsWhole': WHATEVER THE INPUT: true; the input reads as it did. -/
def centsWholeSpec : ChangeSpec := { name := "centsWhole", fn := fun _ => fun
  | [d1, d2, d3] => { results := [.lit (.bool true)], args := [d1, d2, d3] }
  | _ => none }
def centsWholeRow : OpenClaim := { program := "ytdapcahphaldjaa", sum := "1fa7e57b429e45532d98a4767eeca4acad883b2c6f2aa59697ca48ea89c86be3", func := "quitrent/quitrentlaw01.CentsWhole", spec := "centsWhole", apart := false }
def CentsWholeSaid : Prop := centsWholeRow.holds Try.pinned (OpenSpec.ofChange centsWholeSpec)

/-- ITS FALSE NEIGHBOUR: 'it returns false'. Refute it at one input. -/
def centsWholeWrong : ChangeSpec := { name := "centsWhole", fn := fun _ => fun
  | [d1, d2, d3] => { results := [.lit (.bool false)], args := [d1, d2, d3] }
  | _ => none }
def CentsWholeWrongFalsely : Prop := centsWholeRow.holds Try.pinned (OpenSpec.ofChange centsWholeWrong)

/- THE SECOND FORM. 'bulk': how many values and letters a reading holds, each counted each time it is reached (what is shared counts as often as it is met; a slice's spare places count too). A statement '..UptoSaid' is the law's where the arguments, and the package variables that the reading takes, are together of bulk at most 1048576: NARROWER than '..Said'. Prove '..Said' where nothing that the law and all that it calls make is longer than what came in: it says more and counts as full. Else prove '..UptoSaid'. A law counts once. -/
mutual
def uptoBulk {H : Type} : DataW H → Nat
  | .lit (.string bytes) => bytes.length + 1
  | .lit _ => 1
  | .nil => 1
  | .ptr d => uptoBulk d + 1
  | .slice elems spare => uptoBulkAll elems + uptoBulkAll spare + 1
  | .agg parts => uptoBulkAll parts + 1
  | .iface _ d => uptoBulk d + 1
  | .map entries => uptoBulkEntries entries + 1
  | .held _ => 1
def uptoBulkAll {H : Type} : List (DataW H) → Nat
  | [] => 0
  | d :: r => uptoBulk d + uptoBulkAll r
def uptoBulkEntries {H : Type} : List (Lit × DataW H) → Nat
  | [] => 0
  | x :: r => uptoBulkEntry x + uptoBulkEntries r
def uptoBulkEntry {H : Type} : Lit × DataW H → Nat
  | (.string bytes, d) => bytes.length + uptoBulk d + 1
  | (_, d) => uptoBulk d + 1
 end
def uptoSmall : (H : Type) → List (DataW H) → Bool := fun _ ds => decide (uptoBulkAll ds ≤ 1048576)
def OpenSpec.upto (s : _root_.Go.ChangeSpec) : _root_.Go.OpenSpec := { _root_.Go.OpenSpec.ofChange s with cond := some uptoSmall }

/-- 'quitrentlaw05.StoreDoes', WHERE WHAT IT READS IS OF BULK AT MOST 1048576: true; the input reads as it did. -/
def storeDoesUptoRow : OpenClaim := { program := "ytdapcahphaldjaa", sum := "1fa7e57b429e45532d98a4767eeca4acad883b2c6f2aa59697ca48ea89c86be3", func := "quitrent/quitrentlaw05.StoreDoes", spec := "storeDoes", apart := false, narrowed := true }
def StoreDoesUptoSaid : Prop := storeDoesUptoRow.holds Try.pinned (OpenSpec.upto storeDoesSpec)

/-- 'quitrentlaw05.StoreKeeps', WHERE WHAT IT READS IS OF BULK AT MOST 1048576: true; the input reads as it did. -/
def storeKeepsUptoRow : OpenClaim := { program := "ytdapcahphaldjaa", sum := "1fa7e57b429e45532d98a4767eeca4acad883b2c6f2aa59697ca48ea89c86be3", func := "quitrent/quitrentlaw05.StoreKeeps", spec := "storeKeeps", apart := false, narrowed := true }
def StoreKeepsUptoSaid : Prop := storeKeepsUptoRow.holds Try.pinned (OpenSpec.upto storeKeepsSpec)

/-- 'quitrentlaw17.NetTells', WHERE WHAT IT READS IS OF BULK AT MOST 1048576: true; the input reads as it did. -/
def netTellsUptoRow : OpenClaim := { program := "ytdapcahphaldjaa", sum := "1fa7e57b429e45532d98a4767eeca4acad883b2c6f2aa59697ca48ea89c86be3", func := "quitrent/quitrentlaw17.NetTells", spec := "netTells", unfollowed := true, recurses := true, apart := false, narrowed := true }
def NetTellsUptoSaid : Prop := netTellsUptoRow.holds Try.pinned (OpenSpec.upto netTellsSpec)

/-- 'quitrentlaw17.NetMoves', WHERE WHAT IT READS IS OF BULK AT MOST 1048576: true; the input reads as it did. -/
def netMovesUptoRow : OpenClaim := { program := "ytdapcahphaldjaa", sum := "1fa7e57b429e45532d98a4767eeca4acad883b2c6f2aa59697ca48ea89c86be3", func := "quitrent/quitrentlaw17.NetMoves", spec := "netMoves", unfollowed := true, recurses := true, apart := false, narrowed := true }
def NetMovesUptoSaid : Prop := netMovesUptoRow.holds Try.pinned (OpenSpec.upto netMovesSpec)

/-- 'quitrentlaw17.NetBack', WHERE WHAT IT READS IS OF BULK AT MOST 1048576: true; the input reads as it did. -/
def netBackUptoRow : OpenClaim := { program := "ytdapcahphaldjaa", sum := "1fa7e57b429e45532d98a4767eeca4acad883b2c6f2aa59697ca48ea89c86be3", func := "quitrent/quitrentlaw17.NetBack", spec := "netBack", unfollowed := true, recurses := true, apart := false, narrowed := true }
def NetBackUptoSaid : Prop := netBackUptoRow.holds Try.pinned (OpenSpec.upto netBackSpec)

/-- 'quitrentlaw17.NetEven', WHERE WHAT IT READS IS OF BULK AT MOST 1048576: true; the input reads as it did. -/
def netEvenUptoRow : OpenClaim := { program := "ytdapcahphaldjaa", sum := "1fa7e57b429e45532d98a4767eeca4acad883b2c6f2aa59697ca48ea89c86be3", func := "quitrent/quitrentlaw17.NetEven", spec := "netEven", unfollowed := true, recurses := true, apart := false, narrowed := true }
def NetEvenUptoSaid : Prop := netEvenUptoRow.holds Try.pinned (OpenSpec.upto netEvenSpec)

/-- 'quitrentlaw01.CentsSums', WHERE WHAT IT READS IS OF BULK AT MOST 1048576: true; the input reads as it did. -/
def centsSumsUptoRow : OpenClaim := { program := "ytdapcahphaldjaa", sum := "1fa7e57b429e45532d98a4767eeca4acad883b2c6f2aa59697ca48ea89c86be3", func := "quitrent/quitrentlaw01.CentsSums", spec := "centsSums", recurses := true, apart := false, narrowed := true }
def CentsSumsUptoSaid : Prop := centsSumsUptoRow.holds Try.pinned (OpenSpec.upto centsSumsSpec)

/-- 'quitrentlaw01.CentsParts', WHERE WHAT IT READS IS OF BULK AT MOST 1048576: true; the input reads as it did. -/
def centsPartsUptoRow : OpenClaim := { program := "ytdapcahphaldjaa", sum := "1fa7e57b429e45532d98a4767eeca4acad883b2c6f2aa59697ca48ea89c86be3", func := "quitrent/quitrentlaw01.CentsParts", spec := "centsParts", recurses := true, apart := false, narrowed := true }
def CentsPartsUptoSaid : Prop := centsPartsUptoRow.holds Try.pinned (OpenSpec.upto centsPartsSpec)

/-- 'quitrentlaw01.CentsRises', WHERE WHAT IT READS IS OF BULK AT MOST 1048576: true; the input reads as it did. -/
def centsRisesUptoRow : OpenClaim := { program := "ytdapcahphaldjaa", sum := "1fa7e57b429e45532d98a4767eeca4acad883b2c6f2aa59697ca48ea89c86be3", func := "quitrent/quitrentlaw01.CentsRises", spec := "centsRises", apart := false, narrowed := true }
def CentsRisesUptoSaid : Prop := centsRisesUptoRow.holds Try.pinned (OpenSpec.upto centsRisesSpec)

/-- 'quitrentlaw01.CentsWhole', WHERE WHAT IT READS IS OF BULK AT MOST 1048576: true; the input reads as it did. -/
def centsWholeUptoRow : OpenClaim := { program := "ytdapcahphaldjaa", sum := "1fa7e57b429e45532d98a4767eeca4acad883b2c6f2aa59697ca48ea89c86be3", func := "quitrent/quitrentlaw01.CentsWhole", spec := "centsWhole", apart := false, narrowed := true }
def CentsWholeUptoSaid : Prop := centsWholeUptoRow.holds Try.pinned (OpenSpec.upto centsWholeSpec)

end Rows
end Go.Proofs.Ytdapcahphaldjaa
