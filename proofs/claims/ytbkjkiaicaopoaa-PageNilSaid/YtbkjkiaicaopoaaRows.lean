/-
  No cell of these rows narrows 'for every input' (looked for: loops, veiled, ifaces, maps, wideKeys, modest, calm, conditions, laid).
  DERIVED. THE GIVEN ROWS OF THIS SEAT. 11 by the template 'for every input the law returns true; each argument reads behind the call as it read before'; 0 by the template 'total and deterministic' (their statements: YtbkjkiaicaopoaaTotals.lean).
  GIVEN WITH THE SEED: the statements are not yours to turn. If you find one false, say at which input.
  Laid BY PROGRAM, IN A SANDBOX (cutbox-rows.mjs): the forced cells as the released guide's own fill.sh prints them over the translation bd00bba0d2007c2a… (all of the seat's roots in one cut). By AI agents, Wed Nov 11 2026. No macro, syntax, notation, axiom, sorry.
-/
import Derived.Test.YtbkjkiaicaopoaaChecked
import GoSem.Claim
import GoSem.ClaimJoined
import GoSem.ClaimMapViews
import Derived.JoinedTies
import Derived.KernelRfl
namespace Go.Proofs.Ytbkjkiaicaopoaa
/- THE CELL 'sum', in the pinned program and in every row, IS THE sha256 OF THE DUMP (.gsa) THAT YtbkjkiaicaopoaaProg.lean LOADS. Nothing in Lean hashes anything: it is a label: what it is worth is what the hold of that sum in a sandbox is worth. -/
noncomputable def Try.pinned : Pinned := { name := "ytbkjkiaicaopoaa", sum := "bd00bba0d2007c2a2c7ed510ee79f11f9c2e446e1049ab4f7a379493064082ab", checked := Try.checked }
namespace Rows
def none {H : Type} : Left H := { results := [], args := [] }

/-- 'needlebeamlaw07.DiskLasts': WHATEVER THE INPUT: true; the input reads as it did. -/
def diskLastsSpec : ChangeSpec := { name := "diskLasts", fn := fun _ => fun
  | [d1, d2, d3] => { results := [.lit (.bool true)], args := [d1, d2, d3] }
  | _ => none }
def diskLastsRow : OpenClaim := { program := "ytbkjkiaicaopoaa", sum := "bd00bba0d2007c2a2c7ed510ee79f11f9c2e446e1049ab4f7a379493064082ab", func := "needlebeam/needlebeamlaw07.DiskLasts", spec := "diskLasts", unfollowed := true, recurses := true, apart := false }
def DiskLastsSaid : Prop := diskLastsRow.holds Try.pinned (OpenSpec.ofChange diskLastsSpec)

/-- ITS FALSE NEIGHBOUR: 'it returns false'. Refute it at one input. -/
def diskLastsWrong : ChangeSpec := { name := "diskLasts", fn := fun _ => fun
  | [d1, d2, d3] => { results := [.lit (.bool false)], args := [d1, d2, d3] }
  | _ => none }
def DiskLastsWrongFalsely : Prop := diskLastsRow.holds Try.pinned (OpenSpec.ofChange diskLastsWrong)

/-- 'needlebeamlaw07.DiskFuses': WHATEVER THE INPUT: true; the input reads as it did. -/
def diskFusesSpec : ChangeSpec := { name := "diskFuses", fn := fun _ => fun
  | [d1, d2] => { results := [.lit (.bool true)], args := [d1, d2] }
  | _ => none }
def diskFusesRow : OpenClaim := { program := "ytbkjkiaicaopoaa", sum := "bd00bba0d2007c2a2c7ed510ee79f11f9c2e446e1049ab4f7a379493064082ab", func := "needlebeam/needlebeamlaw07.DiskFuses", spec := "diskFuses", unfollowed := true, recurses := true, apart := false }
def DiskFusesSaid : Prop := diskFusesRow.holds Try.pinned (OpenSpec.ofChange diskFusesSpec)

/-- ITS FALSE NEIGHBOUR: 'it returns false'. Refute it at one input. -/
def diskFusesWrong : ChangeSpec := { name := "diskFuses", fn := fun _ => fun
  | [d1, d2] => { results := [.lit (.bool false)], args := [d1, d2] }
  | _ => none }
def DiskFusesWrongFalsely : Prop := diskFusesRow.holds Try.pinned (OpenSpec.ofChange diskFusesWrong)

/-- 'needlebeamlaw07.DiskTwo': WHATEVER THE INPUT: true; the input reads as it did. -/
def diskTwoSpec : ChangeSpec := { name := "diskTwo", fn := fun _ => fun
  | [d1, d2] => { results := [.lit (.bool true)], args := [d1, d2] }
  | _ => none }
def diskTwoRow : OpenClaim := { program := "ytbkjkiaicaopoaa", sum := "bd00bba0d2007c2a2c7ed510ee79f11f9c2e446e1049ab4f7a379493064082ab", func := "needlebeam/needlebeamlaw07.DiskTwo", spec := "diskTwo", unfollowed := true, recurses := true, apart := false }
def DiskTwoSaid : Prop := diskTwoRow.holds Try.pinned (OpenSpec.ofChange diskTwoSpec)

/-- ITS FALSE NEIGHBOUR: 'it returns false'. Refute it at one input. -/
def diskTwoWrong : ChangeSpec := { name := "diskTwo", fn := fun _ => fun
  | [d1, d2] => { results := [.lit (.bool false)], args := [d1, d2] }
  | _ => none }
def DiskTwoWrongFalsely : Prop := diskTwoRow.holds Try.pinned (OpenSpec.ofChange diskTwoWrong)

/-- 'needlebeamlaw07.DiskPlays': WHATEVER THE INPUT: true; the input reads as it did. -/
def diskPlaysSpec : ChangeSpec := { name := "diskPlays", fn := fun _ => fun
  | [d1, d2, d3] => { results := [.lit (.bool true)], args := [d1, d2, d3] }
  | _ => none }
def diskPlaysRow : OpenClaim := { program := "ytbkjkiaicaopoaa", sum := "bd00bba0d2007c2a2c7ed510ee79f11f9c2e446e1049ab4f7a379493064082ab", func := "needlebeam/needlebeamlaw07.DiskPlays", spec := "diskPlays", unfollowed := true, recurses := true, apart := false }
def DiskPlaysSaid : Prop := diskPlaysRow.holds Try.pinned (OpenSpec.ofChange diskPlaysSpec)

/-- ITS FALSE NEIGHBOUR: 'it returns false'. Refute it at one input. -/
def diskPlaysWrong : ChangeSpec := { name := "diskPlays", fn := fun _ => fun
  | [d1, d2, d3] => { results := [.lit (.bool false)], args := [d1, d2, d3] }
  | _ => none }
def DiskPlaysWrongFalsely : Prop := diskPlaysRow.holds Try.pinned (OpenSpec.ofChange diskPlaysWrong)

/-- 'needlebeamlaw07.DiskNil': WHATEVER THE INPUT: true; the input reads as it did. -/
def diskNilSpec : ChangeSpec := { name := "diskNil", fn := fun _ => fun
  | [d1, d2] => { results := [.lit (.bool true)], args := [d1, d2] }
  | _ => none }
def diskNilRow : OpenClaim := { program := "ytbkjkiaicaopoaa", sum := "bd00bba0d2007c2a2c7ed510ee79f11f9c2e446e1049ab4f7a379493064082ab", func := "needlebeam/needlebeamlaw07.DiskNil", spec := "diskNil", unfollowed := true, recurses := true, apart := false }
def DiskNilSaid : Prop := diskNilRow.holds Try.pinned (OpenSpec.ofChange diskNilSpec)

/-- ITS FALSE NEIGHBOUR: 'it returns false'. Refute it at one input. -/
def diskNilWrong : ChangeSpec := { name := "diskNil", fn := fun _ => fun
  | [d1, d2] => { results := [.lit (.bool false)], args := [d1, d2] }
  | _ => none }
def DiskNilWrongFalsely : Prop := diskNilRow.holds Try.pinned (OpenSpec.ofChange diskNilWrong)

/-- 'needlebeamlaw10.PageNil': WHATEVER THE INPUT: true; the input reads as it did. -/
def pageNilSpec : ChangeSpec := { name := "pageNil", fn := fun _ => fun
  | [d1, d2] => { results := [.lit (.bool true)], args := [d1, d2] }
  | _ => none }
def pageNilRow : OpenClaim := { program := "ytbkjkiaicaopoaa", sum := "bd00bba0d2007c2a2c7ed510ee79f11f9c2e446e1049ab4f7a379493064082ab", func := "needlebeam/needlebeamlaw10.PageNil", spec := "pageNil", unfollowed := true, recurses := true, apart := false }
def PageNilSaid : Prop := pageNilRow.holds Try.pinned (OpenSpec.ofChange pageNilSpec)

/-- ITS FALSE NEIGHBOUR: 'it returns false'. Refute it at one input. -/
def pageNilWrong : ChangeSpec := { name := "pageNil", fn := fun _ => fun
  | [d1, d2] => { results := [.lit (.bool false)], args := [d1, d2] }
  | _ => none }
def PageNilWrongFalsely : Prop := pageNilRow.holds Try.pinned (OpenSpec.ofChange pageNilWrong)

/-- 'needlebeamlaw10.PagePlays': WHATEVER THE INPUT: true; the input reads as it did. -/
def pagePlaysSpec : ChangeSpec := { name := "pagePlays", fn := fun _ => fun
  | [d1, d2] => { results := [.lit (.bool true)], args := [d1, d2] }
  | _ => none }
def pagePlaysRow : OpenClaim := { program := "ytbkjkiaicaopoaa", sum := "bd00bba0d2007c2a2c7ed510ee79f11f9c2e446e1049ab4f7a379493064082ab", func := "needlebeam/needlebeamlaw10.PagePlays", spec := "pagePlays", unfollowed := true, recurses := true, apart := false }
def PagePlaysSaid : Prop := pagePlaysRow.holds Try.pinned (OpenSpec.ofChange pagePlaysSpec)

/-- ITS FALSE NEIGHBOUR: 'it returns false'. Refute it at one input. -/
def pagePlaysWrong : ChangeSpec := { name := "pagePlays", fn := fun _ => fun
  | [d1, d2] => { results := [.lit (.bool false)], args := [d1, d2] }
  | _ => none }
def PagePlaysWrongFalsely : Prop := pagePlaysRow.holds Try.pinned (OpenSpec.ofChange pagePlaysWrong)

/-- 'needlebeamlaw05.PackCuts': WHATEVER THE INPUT: true; the input reads as it did. -/
def packCutsSpec : ChangeSpec := { name := "packCuts", fn := fun _ => fun
  | [d1, d2, d3] => { results := [.lit (.bool true)], args := [d1, d2, d3] }
  | _ => none }
def packCutsRow : OpenClaim := { program := "ytbkjkiaicaopoaa", sum := "bd00bba0d2007c2a2c7ed510ee79f11f9c2e446e1049ab4f7a379493064082ab", func := "needlebeam/needlebeamlaw05.PackCuts", spec := "packCuts", apart := false }
def PackCutsSaid : Prop := packCutsRow.holds Try.pinned (OpenSpec.ofChange packCutsSpec)

/-- ITS FALSE NEIGHBOUR: 'it returns false'. Refute it at one input. -/
def packCutsWrong : ChangeSpec := { name := "packCuts", fn := fun _ => fun
  | [d1, d2, d3] => { results := [.lit (.bool false)], args := [d1, d2, d3] }
  | _ => none }
def PackCutsWrongFalsely : Prop := packCutsRow.holds Try.pinned (OpenSpec.ofChange packCutsWrong)

/-- 'needlebeamlaw05.PackRows': WHATEVER THE INPUT: true; the input reads as it did. -/
def packRowsSpec : ChangeSpec := { name := "packRows", fn := fun _ => fun
  | [d1, d2] => { results := [.lit (.bool true)], args := [d1, d2] }
  | _ => none }
def packRowsRow : OpenClaim := { program := "ytbkjkiaicaopoaa", sum := "bd00bba0d2007c2a2c7ed510ee79f11f9c2e446e1049ab4f7a379493064082ab", func := "needlebeam/needlebeamlaw05.PackRows", spec := "packRows", recurses := true, apart := false }
def PackRowsSaid : Prop := packRowsRow.holds Try.pinned (OpenSpec.ofChange packRowsSpec)

/-- ITS FALSE NEIGHBOUR: 'it returns false'. Refute it at one input. -/
def packRowsWrong : ChangeSpec := { name := "packRows", fn := fun _ => fun
  | [d1, d2] => { results := [.lit (.bool false)], args := [d1, d2] }
  | _ => none }
def PackRowsWrongFalsely : Prop := packRowsRow.holds Try.pinned (OpenSpec.ofChange packRowsWrong)

/-- 'needlebeamlaw05.PackGets': WHATEVER THE INPUT: true; the input reads as it did. -/
def packGetsSpec : ChangeSpec := { name := "packGets", fn := fun _ => fun
  | [d] => { results := [.lit (.bool true)], args := [d] }
  | _ => none }
def packGetsRow : OpenClaim := { program := "ytbkjkiaicaopoaa", sum := "bd00bba0d2007c2a2c7ed510ee79f11f9c2e446e1049ab4f7a379493064082ab", func := "needlebeam/needlebeamlaw05.PackGets", spec := "packGets", apart := false }
def PackGetsSaid : Prop := packGetsRow.holds Try.pinned (OpenSpec.ofChange packGetsSpec)

/-- ITS FALSE NEIGHBOUR: 'it returns false'. Refute it at one input. -/
def packGetsWrong : ChangeSpec := { name := "packGets", fn := fun _ => fun
  | [d] => { results := [.lit (.bool false)], args := [d] }
  | _ => none }
def PackGetsWrongFalsely : Prop := packGetsRow.holds Try.pinned (OpenSpec.ofChange packGetsWrong)

/-- 'needlebeamlaw02.TrailNil': WHATEVER THE INPUT: true; the input reads as it did. -/
def trailNilSpec : ChangeSpec := { name := "trailNil", fn := fun _ => fun
  | [d1, d2] => { results := [.lit (.bool true)], args := [d1, d2] }
  | _ => none }
def trailNilRow : OpenClaim := { program := "ytbkjkiaicaopoaa", sum := "bd00bba0d2007c2a2c7ed510ee79f11f9c2e446e1049ab4f7a379493064082ab", func := "needlebeam/needlebeamlaw02.TrailNil", spec := "trailNil", unfollowed := true, recurses := true, apart := false }
def TrailNilSaid : Prop := trailNilRow.holds Try.pinned (OpenSpec.ofChange trailNilSpec)

/-- ITS FALSE NEIGHBOUR: 'it returns false'. Refute it at one input. -/
def trailNilWrong : ChangeSpec := { name := "trailNil", fn := fun _ => fun
  | [d1, d2] => { results := [.lit (.bool false)], args := [d1, d2] }
  | _ => none }
def TrailNilWrongFalsely : Prop := trailNilRow.holds Try.pinned (OpenSpec.ofChange trailNilWrong)

/- THE SECOND FORM. 'bulk': how many values and letters a reading holds, each counted each time it is reached (what is shared counts as often as it is met; a slice's spare places count too). A statement '..UptoSaid' is the law's where the arguments, and the package variables that the reading takes, are together of bulk at most 1048576: NARROWER than '..Said'. Prove '..Said' where nothing that the law and all that it calls make is longer than what came in: it says more and counts as full. Else prove '..UptoSaid'. A law counts once. -/
mutual
def uptoBulk {H : Type} : DataW H → Nat
  | .lit (.string bytes) => bytes.length + 1
  | .lit _ => 1
  | .nil => 1
  | .ptr d => uptoBulk d + 1
  | .slice elems spare => uptoBulkAll elems + uptoBulkAll spare + 1
  | .agg parts => uptoBulkAll parts + 1
  | .iface _ d => uptoBulk d + 1
  | .map entries => uptoBulkEntries entries + 1
  | .held _ => 1
def uptoBulkAll {H : Type} : List (DataW H) → Nat
  | [] => 0
  | d :: r => uptoBulk d + uptoBulkAll r
def uptoBulkEntries {H : Type} : List (Lit × DataW H) → Nat
  | [] => 0
  | x :: r => uptoBulkEntry x + uptoBulkEntries r
def uptoBulkEntry {H : Type} : Lit × DataW H → Nat
  | (.string bytes, d) => bytes.length + uptoBulk d + 1
  | (_, d) => uptoBulk d + 1
 end
def uptoSmall : (H : Type) → List (DataW H) → Bool := fun _ ds => decide (uptoBulkAll ds ≤ 1048576)
def OpenSpec.upto (s : _root_.Go.ChangeSpec) : _root_.Go.OpenSpec := { _root_.Go.OpenSpec.ofChange s with cond := some uptoSmall }

/-- 'needlebeamlaw07.DiskLasts', WHERE WHAT IT READS IS OF BULK AT MOST 1048576: true; the input reads as it did. -/
def diskLastsUptoRow : OpenClaim := { program := "ytbkjkiaicaopoaa", sum := "bd00bba0d2007c2a2c7ed510ee79f11f9c2e446e1049ab4f7a379493064082ab", func := "needlebeam/needlebeamlaw07.DiskLasts", spec := "diskLasts", unfollowed := true, recurses := true, apart := false, narrowed := true }
def DiskLastsUptoSaid : Prop := diskLastsUptoRow.holds Try.pinned (OpenSpec.upto diskLastsSpec)

/-- 'needlebeamlaw07.DiskFuses', WHERE WHAT IT READS IS OF BULK AT MOST 1048576: true; the input reads as it did. -/
def diskFusesUptoRow : OpenClaim := { program := "ytbkjkiaicaopoaa", sum := "bd00bba0d2007c2a2c7ed510ee79f11f9c2e446e1049ab4f7a379493064082ab", func := "needlebeam/needlebeamlaw07.DiskFuses", spec := "diskFuses", unfollowed := true, recurses := true, apart := false, narrowed := true }
def DiskFusesUptoSaid : Prop := diskFusesUptoRow.holds Try.pinned (OpenSpec.upto diskFusesSpec)

/-- 'needlebeamlaw07.DiskTwo', WHERE WHAT IT READS IS OF BULK AT MOST 1048576: true; the input reads as it did. -/
def diskTwoUptoRow : OpenClaim := { program := "ytbkjkiaicaopoaa", sum := "bd00bba0d2007c2a2c7ed510ee79f11f9c2e446e1049ab4f7a379493064082ab", func := "needlebeam/needlebeamlaw07.DiskTwo", spec := "diskTwo", unfollowed := true, recurses := true, apart := false, narrowed := true }
def DiskTwoUptoSaid : Prop := diskTwoUptoRow.holds Try.pinned (OpenSpec.upto diskTwoSpec)

/-- 'needlebeamlaw07.DiskPlays', WHERE WHAT IT READS IS OF BULK AT MOST 1048576: true; the input reads as it did. -/
def diskPlaysUptoRow : OpenClaim := { program := "ytbkjkiaicaopoaa", sum := "bd00bba0d2007c2a2c7ed510ee79f11f9c2e446e1049ab4f7a379493064082ab", func := "needlebeam/needlebeamlaw07.DiskPlays", spec := "diskPlays", unfollowed := true, recurses := true, apart := false, narrowed := true }
def DiskPlaysUptoSaid : Prop := diskPlaysUptoRow.holds Try.pinned (OpenSpec.upto diskPlaysSpec)

/-- 'needlebeamlaw07.DiskNil', WHERE WHAT IT READS IS OF BULK AT MOST 1048576: true; the input reads as it did. -/
def diskNilUptoRow : OpenClaim := { program := "ytbkjkiaicaopoaa", sum := "bd00bba0d2007c2a2c7ed510ee79f11f9c2e446e1049ab4f7a379493064082ab", func := "needlebeam/needlebeamlaw07.DiskNil", spec := "diskNil", unfollowed := true, recurses := true, apart := false, narrowed := true }
def DiskNilUptoSaid : Prop := diskNilUptoRow.holds Try.pinned (OpenSpec.upto diskNilSpec)

/-- 'needlebeamlaw10.PageNil', WHERE WHAT IT READS IS OF BULK AT MOST 1048576: true; the input reads as it did. -/
def pageNilUptoRow : OpenClaim := { program := "ytbkjkiaicaopoaa", sum := "bd00bba0d2007c2a2c7ed510ee79f11f9c2e446e1049ab4f7a379493064082ab", func := "needlebeam/needlebeamlaw10.PageNil", spec := "pageNil", unfollowed := true, recurses := true, apart := false, narrowed := true }
def PageNilUptoSaid : Prop := pageNilUptoRow.holds Try.pinned (OpenSpec.upto pageNilSpec)

/-- 'needlebeamlaw10.PagePlays', WHERE WHAT IT READS IS OF BULK AT MOST 1048576: true; the input reads as it did. -/
def pagePlaysUptoRow : OpenClaim := { program := "ytbkjkiaicaopoaa", sum := "bd00bba0d2007c2a2c7ed510ee79f11f9c2e446e1049ab4f7a379493064082ab", func := "needlebeam/needlebeamlaw10.PagePlays", spec := "pagePlays", unfollowed := true, recurses := true, apart := false, narrowed := true }
def PagePlaysUptoSaid : Prop := pagePlaysUptoRow.holds Try.pinned (OpenSpec.upto pagePlaysSpec)

/-- 'needlebeamlaw05.PackCuts', WHERE WHAT IT READS IS OF BULK AT MOST 1048576: true; the input reads as it did. -/
def packCutsUptoRow : OpenClaim := { program := "ytbkjkiaicaopoaa", sum := "bd00bba0d2007c2a2c7ed510ee79f11f9c2e446e1049ab4f7a379493064082ab", func := "needlebeam/needlebeamlaw05.PackCuts", spec := "packCuts", apart := false, narrowed := true }
def PackCutsUptoSaid : Prop := packCutsUptoRow.holds Try.pinned (OpenSpec.upto packCutsSpec)

/-- 'needlebeamlaw05.PackRows', WHERE WHAT IT READS IS OF BULK AT MOST 1048576: true; the input reads as it did. -/
def packRowsUptoRow : OpenClaim := { program := "ytbkjkiaicaopoaa", sum := "bd00bba0d2007c2a2c7ed510ee79f11f9c2e446e1049ab4f7a379493064082ab", func := "needlebeam/needlebeamlaw05.PackRows", spec := "packRows", recurses := true, apart := false, narrowed := true }
def PackRowsUptoSaid : Prop := packRowsUptoRow.holds Try.pinned (OpenSpec.upto packRowsSpec)

/-- 'needlebeamlaw05.PackGets', WHERE WHAT IT READS IS OF BULK AT MOST 1048576: true; the input reads as it did. -/
def packGetsUptoRow : OpenClaim := { program := "ytbkjkiaicaopoaa", sum := "bd00bba0d2007c2a2c7ed510ee79f11f9c2e446e1049ab4f7a379493064082ab", func := "needlebeam/needlebeamlaw05.PackGets", spec := "packGets", apart := false, narrowed := true }
def PackGetsUptoSaid : Prop := packGetsUptoRow.holds Try.pinned (OpenSpec.upto packGetsSpec)

/-- 'needlebeamlaw02.TrailNil', WHERE WHAT IT READS IS OF BULK AT MOST 1048576: true; the input reads as it did. -/
def trailNilUptoRow : OpenClaim := { program := "ytbkjkiaicaopoaa", sum := "bd00bba0d2007c2a2c7ed510ee79f11f9c2e446e1049ab4f7a379493064082ab", func := "needlebeam/needlebeamlaw02.TrailNil", spec := "trailNil", unfollowed := true, recurses := true, apart := false, narrowed := true }
def TrailNilUptoSaid : Prop := trailNilUptoRow.holds Try.pinned (OpenSpec.upto trailNilSpec)

end Rows
end Go.Proofs.Ytbkjkiaicaopoaa
