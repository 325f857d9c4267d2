/-
  No cell of these rows narrows 'for every input' (looked for: loops, veiled, ifaces, maps, wideKeys, modest, calm, conditions, laid).
  DERIVED. THE GIVEN ROWS OF THIS SEAT. 11 by the template 'for every input the law returns true; each argument reads behind the call as it read before'; 0 by the template 'total and deterministic' (their statements: YtafohemmjhjgbaaTotals.lean).
  GIVEN WITH THE SEED: the statements are not yours to turn. If you find one false, say at which input.
  Laid BY PROGRAM, IN A SANDBOX (cutbox-rows.mjs): the forced cells as the released guide's own fill.sh prints them over the translation f06308e495461269… (all of the seat's roots in one cut). By AI agents, Wed Nov 11 2026. No macro, syntax, notation, axiom, sorry.
-/
import Derived.Test.YtafohemmjhjgbaaChecked
import GoSem.Claim
import GoSem.ClaimJoined
import GoSem.ClaimMapViews
import Derived.JoinedTies
import Derived.KernelRfl
namespace Go.Proofs.Ytafohemmjhjgbaa
/- THE CELL 'sum', in the pinned program and in every row, IS THE sha256 OF THE DUMP (.gsa) THAT YtafohemmjhjgbaaProg.lean LOADS. Nothing in Lean hashes anything: it is a label: what it is worth is what the hold of that sum in a sandbox is worth. -/
noncomputable def Try.pinned : Pinned := { name := "ytafohemmjhjgbaa", sum := "f06308e49546126900375fc88b0963e78304b733c4ca40b029a51f61b2916f48", checked := Try.checked }
namespace Rows
def none {H : Type} : Left H := { results := [], args := [] }

/-- 'needlebeamlaw35.LoadDraws': WHATEVER THE INPUT: true; the input reads as it did. -/
def loadDrawsSpec : ChangeSpec := { name := "loadDraws", fn := fun _ => fun
  | [d1, d2] => { results := [.lit (.bool true)], args := [d1, d2] }
  | _ => none }
def loadDrawsRow : OpenClaim := { program := "ytafohemmjhjgbaa", sum := "f06308e49546126900375fc88b0963e78304b733c4ca40b029a51f61b2916f48", func := "needlebeam/needlebeamlaw35.LoadDraws", spec := "loadDraws", apart := false }
def LoadDrawsSaid : Prop := loadDrawsRow.holds Try.pinned (OpenSpec.ofChange loadDrawsSpec)

/-- ITS FALSE NEIGHBOUR: 'it returns false'. Refute it at one input. -/
def loadDrawsWrong : ChangeSpec := { name := "loadDraws", fn := fun _ => fun
  | [d1, d2] => { results := [.lit (.bool false)], args := [d1, d2] }
  | _ => none }
def LoadDrawsWrongFalsely : Prop := loadDrawsRow.holds Try.pinned (OpenSpec.ofChange loadDrawsWrong)

/-- 'needlebeamlaw06.SumTells': WHATEVER THE INPUT: true; the input reads as it did. -/
def sumTellsSpec : ChangeSpec := { name := "sumTells", fn := fun _ => fun
  | [d1, d2] => { results := [.lit (.bool true)], args := [d1, d2] }
  | _ => none }
def sumTellsRow : OpenClaim := { program := "ytafohemmjhjgbaa", sum := "f06308e49546126900375fc88b0963e78304b733c4ca40b029a51f61b2916f48", func := "needlebeam/needlebeamlaw06.SumTells", spec := "sumTells", apart := false }
def SumTellsSaid : Prop := sumTellsRow.holds Try.pinned (OpenSpec.ofChange sumTellsSpec)

/-- ITS FALSE NEIGHBOUR: 'it returns false'. Refute it at one input. -/
def sumTellsWrong : ChangeSpec := { name := "sumTells", fn := fun _ => fun
  | [d1, d2] => { results := [.lit (.bool false)], args := [d1, d2] }
  | _ => none }
def SumTellsWrongFalsely : Prop := sumTellsRow.holds Try.pinned (OpenSpec.ofChange sumTellsWrong)

/-- 'needlebeamlaw06.SumFinds': WHATEVER THE INPUT: true; the input reads as it did. -/
def sumFindsSpec : ChangeSpec := { name := "sumFinds", fn := fun _ => fun
  | [d1, d2, d3, d4] => { results := [.lit (.bool true)], args := [d1, d2, d3, d4] }
  | _ => none }
def sumFindsRow : OpenClaim := { program := "ytafohemmjhjgbaa", sum := "f06308e49546126900375fc88b0963e78304b733c4ca40b029a51f61b2916f48", func := "needlebeam/needlebeamlaw06.SumFinds", spec := "sumFinds", apart := false }
def SumFindsSaid : Prop := sumFindsRow.holds Try.pinned (OpenSpec.ofChange sumFindsSpec)

/-- ITS FALSE NEIGHBOUR: 'it returns false'. Refute it at one input. -/
def sumFindsWrong : ChangeSpec := { name := "sumFinds", fn := fun _ => fun
  | [d1, d2, d3, d4] => { results := [.lit (.bool false)], args := [d1, d2, d3, d4] }
  | _ => none }
def SumFindsWrongFalsely : Prop := sumFindsRow.holds Try.pinned (OpenSpec.ofChange sumFindsWrong)

/-- 'needlebeamlaw06.SumOpens': WHATEVER THE INPUT: true; the input reads as it did. -/
def sumOpensSpec : ChangeSpec := { name := "sumOpens", fn := fun _ => fun
  | [d1, d2, d3, d4, d5] => { results := [.lit (.bool true)], args := [d1, d2, d3, d4, d5] }
  | _ => none }
def sumOpensRow : OpenClaim := { program := "ytafohemmjhjgbaa", sum := "f06308e49546126900375fc88b0963e78304b733c4ca40b029a51f61b2916f48", func := "needlebeam/needlebeamlaw06.SumOpens", spec := "sumOpens", apart := false }
def SumOpensSaid : Prop := sumOpensRow.holds Try.pinned (OpenSpec.ofChange sumOpensSpec)

/-- ITS FALSE NEIGHBOUR: 'it returns false'. Refute it at one input. -/
def sumOpensWrong : ChangeSpec := { name := "sumOpens", fn := fun _ => fun
  | [d1, d2, d3, d4, d5] => { results := [.lit (.bool false)], args := [d1, d2, d3, d4, d5] }
  | _ => none }
def SumOpensWrongFalsely : Prop := sumOpensRow.holds Try.pinned (OpenSpec.ofChange sumOpensWrong)

/-- 'needlebeamlaw02.TrailNests': WHATEVER THE INPUT: true; the input reads as it did. -/
def trailNestsSpec : ChangeSpec := { name := "trailNests", fn := fun _ => fun
  | [d1, d2, d3] => { results := [.lit (.bool true)], args := [d1, d2, d3] }
  | _ => none }
def trailNestsRow : OpenClaim := { program := "ytafohemmjhjgbaa", sum := "f06308e49546126900375fc88b0963e78304b733c4ca40b029a51f61b2916f48", func := "needlebeam/needlebeamlaw02.TrailNests", spec := "trailNests", unfollowed := true, recurses := true, apart := false }
def TrailNestsSaid : Prop := trailNestsRow.holds Try.pinned (OpenSpec.ofChange trailNestsSpec)

/-- ITS FALSE NEIGHBOUR: 'it returns false'. Refute it at one input. -/
def trailNestsWrong : ChangeSpec := { name := "trailNests", fn := fun _ => fun
  | [d1, d2, d3] => { results := [.lit (.bool false)], args := [d1, d2, d3] }
  | _ => none }
def TrailNestsWrongFalsely : Prop := trailNestsRow.holds Try.pinned (OpenSpec.ofChange trailNestsWrong)

/-- 'needlebeamlaw05.PackNumbers': WHATEVER THE INPUT: true; the input reads as it did. -/
def packNumbersSpec : ChangeSpec := { name := "packNumbers", fn := fun _ => fun
  | [d1, d2, d3, d4, d5] => { results := [.lit (.bool true)], args := [d1, d2, d3, d4, d5] }
  | _ => none }
def packNumbersRow : OpenClaim := { program := "ytafohemmjhjgbaa", sum := "f06308e49546126900375fc88b0963e78304b733c4ca40b029a51f61b2916f48", func := "needlebeam/needlebeamlaw05.PackNumbers", spec := "packNumbers", recurses := true, apart := false }
def PackNumbersSaid : Prop := packNumbersRow.holds Try.pinned (OpenSpec.ofChange packNumbersSpec)

/-- ITS FALSE NEIGHBOUR: 'it returns false'. Refute it at one input. -/
def packNumbersWrong : ChangeSpec := { name := "packNumbers", fn := fun _ => fun
  | [d1, d2, d3, d4, d5] => { results := [.lit (.bool false)], args := [d1, d2, d3, d4, d5] }
  | _ => none }
def PackNumbersWrongFalsely : Prop := packNumbersRow.holds Try.pinned (OpenSpec.ofChange packNumbersWrong)

/-- 'needlebeamlaw03.NumComesBack': WHATEVER THE INPUT: true; the input reads as it did. -/
def numComesBackSpec : ChangeSpec := { name := "numComesBack", fn := fun _ => fun
  | [d1, d2] => { results := [.lit (.bool true)], args := [d1, d2] }
  | _ => none }
def numComesBackRow : OpenClaim := { program := "ytafohemmjhjgbaa", sum := "f06308e49546126900375fc88b0963e78304b733c4ca40b029a51f61b2916f48", func := "needlebeam/needlebeamlaw03.NumComesBack", spec := "numComesBack", apart := false }
def NumComesBackSaid : Prop := numComesBackRow.holds Try.pinned (OpenSpec.ofChange numComesBackSpec)

/-- ITS FALSE NEIGHBOUR: 'it returns false'. Refute it at one input. -/
def numComesBackWrong : ChangeSpec := { name := "numComesBack", fn := fun _ => fun
  | [d1, d2] => { results := [.lit (.bool false)], args := [d1, d2] }
  | _ => none }
def NumComesBackWrongFalsely : Prop := numComesBackRow.holds Try.pinned (OpenSpec.ofChange numComesBackWrong)

/-- 'needlebeamlaw03.NumReckons': WHATEVER THE INPUT: true; the input reads as it did. -/
def numReckonsSpec : ChangeSpec := { name := "numReckons", fn := fun _ => fun
  | [d1, d2] => { results := [.lit (.bool true)], args := [d1, d2] }
  | _ => none }
def numReckonsRow : OpenClaim := { program := "ytafohemmjhjgbaa", sum := "f06308e49546126900375fc88b0963e78304b733c4ca40b029a51f61b2916f48", func := "needlebeam/needlebeamlaw03.NumReckons", spec := "numReckons", apart := false }
def NumReckonsSaid : Prop := numReckonsRow.holds Try.pinned (OpenSpec.ofChange numReckonsSpec)

/-- ITS FALSE NEIGHBOUR: 'it returns false'. Refute it at one input. -/
def numReckonsWrong : ChangeSpec := { name := "numReckons", fn := fun _ => fun
  | [d1, d2] => { results := [.lit (.bool false)], args := [d1, d2] }
  | _ => none }
def NumReckonsWrongFalsely : Prop := numReckonsRow.holds Try.pinned (OpenSpec.ofChange numReckonsWrong)

/-- 'needlebeamlaw03.NumTurns': WHATEVER THE INPUT: true; the input reads as it did. -/
def numTurnsSpec : ChangeSpec := { name := "numTurns", fn := fun _ => fun
  | [d1, d2] => { results := [.lit (.bool true)], args := [d1, d2] }
  | _ => none }
def numTurnsRow : OpenClaim := { program := "ytafohemmjhjgbaa", sum := "f06308e49546126900375fc88b0963e78304b733c4ca40b029a51f61b2916f48", func := "needlebeam/needlebeamlaw03.NumTurns", spec := "numTurns", apart := false }
def NumTurnsSaid : Prop := numTurnsRow.holds Try.pinned (OpenSpec.ofChange numTurnsSpec)

/-- ITS FALSE NEIGHBOUR: 'it returns false'. Refute it at one input. -/
def numTurnsWrong : ChangeSpec := { name := "numTurns", fn := fun _ => fun
  | [d1, d2] => { results := [.lit (.bool false)], args := [d1, d2] }
  | _ => none }
def NumTurnsWrongFalsely : Prop := numTurnsRow.holds Try.pinned (OpenSpec.ofChange numTurnsWrong)

/-- 'needlebeamlaw02.TrailTurns': WHATEVER THE INPUT: true; the input reads as it did. -/
def trailTurnsSpec : ChangeSpec := { name := "trailTurns", fn := fun _ => fun
  | [d1, d2] => { results := [.lit (.bool true)], args := [d1, d2] }
  | _ => none }
def trailTurnsRow : OpenClaim := { program := "ytafohemmjhjgbaa", sum := "f06308e49546126900375fc88b0963e78304b733c4ca40b029a51f61b2916f48", func := "needlebeam/needlebeamlaw02.TrailTurns", spec := "trailTurns", unfollowed := true, recurses := true, apart := false }
def TrailTurnsSaid : Prop := trailTurnsRow.holds Try.pinned (OpenSpec.ofChange trailTurnsSpec)

/-- ITS FALSE NEIGHBOUR: 'it returns false'. Refute it at one input. -/
def trailTurnsWrong : ChangeSpec := { name := "trailTurns", fn := fun _ => fun
  | [d1, d2] => { results := [.lit (.bool false)], args := [d1, d2] }
  | _ => none }
def TrailTurnsWrongFalsely : Prop := trailTurnsRow.holds Try.pinned (OpenSpec.ofChange trailTurnsWrong)

/-- 'needlebeamlaw02.TrailPlays': WHATEVER THE INPUT: true; the input reads as it did. -/
def trailPlaysSpec : ChangeSpec := { name := "trailPlays", fn := fun _ => fun
  | [d] => { results := [.lit (.bool true)], args := [d] }
  | _ => none }
def trailPlaysRow : OpenClaim := { program := "ytafohemmjhjgbaa", sum := "f06308e49546126900375fc88b0963e78304b733c4ca40b029a51f61b2916f48", func := "needlebeam/needlebeamlaw02.TrailPlays", spec := "trailPlays", unfollowed := true, recurses := true, apart := false }
def TrailPlaysSaid : Prop := trailPlaysRow.holds Try.pinned (OpenSpec.ofChange trailPlaysSpec)

/-- ITS FALSE NEIGHBOUR: 'it returns false'. Refute it at one input. -/
def trailPlaysWrong : ChangeSpec := { name := "trailPlays", fn := fun _ => fun
  | [d] => { results := [.lit (.bool false)], args := [d] }
  | _ => none }
def TrailPlaysWrongFalsely : Prop := trailPlaysRow.holds Try.pinned (OpenSpec.ofChange trailPlaysWrong)

/- THE SECOND FORM. 'bulk': how many values and letters a reading holds, each counted each time it is reached (what is shared counts as often as it is met; a slice's spare places count too). A statement '..UptoSaid' is the law's where the arguments, and the package variables that the reading takes, are together of bulk at most 1048576: NARROWER than '..Said'. Prove '..Said' where nothing that the law and all that it calls make is longer than what came in: it says more and counts as full. Else prove '..UptoSaid'. A law counts once. -/
mutual
def uptoBulk {H : Type} : DataW H → Nat
  | .lit (.string bytes) => bytes.length + 1
  | .lit _ => 1
  | .nil => 1
  | .ptr d => uptoBulk d + 1
  | .slice elems spare => uptoBulkAll elems + uptoBulkAll spare + 1
  | .agg parts => uptoBulkAll parts + 1
  | .iface _ d => uptoBulk d + 1
  | .map entries => uptoBulkEntries entries + 1
  | .held _ => 1
def uptoBulkAll {H : Type} : List (DataW H) → Nat
  | [] => 0
  | d :: r => uptoBulk d + uptoBulkAll r
def uptoBulkEntries {H : Type} : List (Lit × DataW H) → Nat
  | [] => 0
  | x :: r => uptoBulkEntry x + uptoBulkEntries r
def uptoBulkEntry {H : Type} : Lit × DataW H → Nat
  | (.string bytes, d) => bytes.length + uptoBulk d + 1
  | (_, d) => uptoBulk d + 1
 end
def uptoSmall : (H : Type) → List (DataW H) → Bool := fun _ ds => decide (uptoBulkAll ds ≤ 1048576)
def OpenSpec.upto (s : _root_.Go.ChangeSpec) : _root_.Go.OpenSpec := { _root_.Go.OpenSpec.ofChange s with cond := some uptoSmall }

/-- 'needlebeamlaw35.LoadDraws', WHERE WHAT IT READS IS OF BULK AT MOST 1048576: true; the input reads as it did. -/
def loadDrawsUptoRow : OpenClaim := { program := "ytafohemmjhjgbaa", sum := "f06308e49546126900375fc88b0963e78304b733c4ca40b029a51f61b2916f48", func := "needlebeam/needlebeamlaw35.LoadDraws", spec := "loadDraws", apart := false, narrowed := true }
def LoadDrawsUptoSaid : Prop := loadDrawsUptoRow.holds Try.pinned (OpenSpec.upto loadDrawsSpec)

/-- 'needlebeamlaw06.SumTells', WHERE WHAT IT READS IS OF BULK AT MOST 1048576: true; the input reads as it did. -/
def sumTellsUptoRow : OpenClaim := { program := "ytafohemmjhjgbaa", sum := "f06308e49546126900375fc88b0963e78304b733c4ca40b029a51f61b2916f48", func := "needlebeam/needlebeamlaw06.SumTells", spec := "sumTells", apart := false, narrowed := true }
def SumTellsUptoSaid : Prop := sumTellsUptoRow.holds Try.pinned (OpenSpec.upto sumTellsSpec)

/-- 'needlebeamlaw06.SumFinds', WHERE WHAT IT READS IS OF BULK AT MOST 1048576: true; the input reads as it did. -/
def sumFindsUptoRow : OpenClaim := { program := "ytafohemmjhjgbaa", sum := "f06308e49546126900375fc88b0963e78304b733c4ca40b029a51f61b2916f48", func := "needlebeam/needlebeamlaw06.SumFinds", spec := "sumFinds", apart := false, narrowed := true }
def SumFindsUptoSaid : Prop := sumFindsUptoRow.holds Try.pinned (OpenSpec.upto sumFindsSpec)

/-- 'needlebeamlaw06.SumOpens', WHERE WHAT IT READS IS OF BULK AT MOST 1048576: true; the input reads as it did. -/
def sumOpensUptoRow : OpenClaim := { program := "ytafohemmjhjgbaa", sum := "f06308e49546126900375fc88b0963e78304b733c4ca40b029a51f61b2916f48", func := "needlebeam/needlebeamlaw06.SumOpens", spec := "sumOpens", apart := false, narrowed := true }
def SumOpensUptoSaid : Prop := sumOpensUptoRow.holds Try.pinned (OpenSpec.upto sumOpensSpec)

/-- 'needlebeamlaw02.TrailNests', WHERE WHAT IT READS IS OF BULK AT MOST 1048576: true; the input reads as it did. -/
def trailNestsUptoRow : OpenClaim := { program := "ytafohemmjhjgbaa", sum := "f06308e49546126900375fc88b0963e78304b733c4ca40b029a51f61b2916f48", func := "needlebeam/needlebeamlaw02.TrailNests", spec := "trailNests", unfollowed := true, recurses := true, apart := false, narrowed := true }
def TrailNestsUptoSaid : Prop := trailNestsUptoRow.holds Try.pinned (OpenSpec.upto trailNestsSpec)

/-- 'needlebeamlaw05.PackNumbers', WHERE WHAT IT READS IS OF BULK AT MOST 1048576: true; the input reads as it did. -/
def packNumbersUptoRow : OpenClaim := { program := "ytafohemmjhjgbaa", sum := "f06308e49546126900375fc88b0963e78304b733c4ca40b029a51f61b2916f48", func := "needlebeam/needlebeamlaw05.PackNumbers", spec := "packNumbers", recurses := true, apart := false, narrowed := true }
def PackNumbersUptoSaid : Prop := packNumbersUptoRow.holds Try.pinned (OpenSpec.upto packNumbersSpec)

/-- 'needlebeamlaw03.NumComesBack', WHERE WHAT IT READS IS OF BULK AT MOST 1048576: true; the input reads as it did. -/
def numComesBackUptoRow : OpenClaim := { program := "ytafohemmjhjgbaa", sum := "f06308e49546126900375fc88b0963e78304b733c4ca40b029a51f61b2916f48", func := "needlebeam/needlebeamlaw03.NumComesBack", spec := "numComesBack", apart := false, narrowed := true }
def NumComesBackUptoSaid : Prop := numComesBackUptoRow.holds Try.pinned (OpenSpec.upto numComesBackSpec)

/-- 'needlebeamlaw03.NumReckons', WHERE WHAT IT READS IS OF BULK AT MOST 1048576: true; the input reads as it did. -/
def numReckonsUptoRow : OpenClaim := { program := "ytafohemmjhjgbaa", sum := "f06308e49546126900375fc88b0963e78304b733c4ca40b029a51f61b2916f48", func := "needlebeam/needlebeamlaw03.NumReckons", spec := "numReckons", apart := false, narrowed := true }
def NumReckonsUptoSaid : Prop := numReckonsUptoRow.holds Try.pinned (OpenSpec.upto numReckonsSpec)

/-- 'needlebeamlaw03.NumTurns', WHERE WHAT IT READS IS OF BULK AT MOST 1048576: true; the input reads as it did. -/
def numTurnsUptoRow : OpenClaim := { program := "ytafohemmjhjgbaa", sum := "f06308e49546126900375fc88b0963e78304b733c4ca40b029a51f61b2916f48", func := "needlebeam/needlebeamlaw03.NumTurns", spec := "numTurns", apart := false, narrowed := true }
def NumTurnsUptoSaid : Prop := numTurnsUptoRow.holds Try.pinned (OpenSpec.upto numTurnsSpec)

/-- 'needlebeamlaw02.TrailTurns', WHERE WHAT IT READS IS OF BULK AT MOST 1048576: true; the input reads as it did. -/
def trailTurnsUptoRow : OpenClaim := { program := "ytafohemmjhjgbaa", sum := "f06308e49546126900375fc88b0963e78304b733c4ca40b029a51f61b2916f48", func := "needlebeam/needlebeamlaw02.TrailTurns", spec := "trailTurns", unfollowed := true, recurses := true, apart := false, narrowed := true }
def TrailTurnsUptoSaid : Prop := trailTurnsUptoRow.holds Try.pinned (OpenSpec.upto trailTurnsSpec)

/-- 'needlebeamlaw02.TrailPlays', WHERE WHAT IT READS IS OF BULK AT MOST 1048576: true; the input reads as it did. -/
def trailPlaysUptoRow : OpenClaim := { program := "ytafohemmjhjgbaa", sum := "f06308e49546126900375fc88b0963e78304b733c4ca40b029a51f61b2916f48", func := "needlebeam/needlebeamlaw02.TrailPlays", spec := "trailPlays", unfollowed := true, recurses := true, apart := false, narrowed := true }
def TrailPlaysUptoSaid : Prop := trailPlaysUptoRow.holds Try.pinned (OpenSpec.upto trailPlaysSpec)

end Rows
end Go.Proofs.Ytafohemmjhjgbaa
