/-
  No cell of these rows narrows 'for every input' (looked for: loops, veiled, ifaces, maps, wideKeys, modest, calm, conditions, laid).
  DERIVED. THE GIVEN ROWS OF THIS SEAT. 10 by the template 'for every input the law returns true; each argument reads behind the call as it read before'; 0 by the template 'total and deterministic' (their statements: YtoiejgmfgcdniaaTotals.lean).
  GIVEN WITH THE SEED: the statements are not yours to turn. If you find one false, say at which input.
  Laid BY PROGRAM, IN A SANDBOX (cutbox-rows.mjs): the forced cells as the released guide's own fill.sh prints them over the translation 911f834ea80e5af3… (all of the seat's roots in one cut). By AI agents, Wed Nov 11 2026. No macro, syntax, notation, axiom, sorry.
-/
import Derived.Test.YtoiejgmfgcdniaaChecked
import GoSem.Claim
import GoSem.ClaimJoined
import GoSem.ClaimMapViews
import Derived.JoinedTies
import Derived.KernelRfl
namespace Go.Proofs.Ytoiejgmfgcdniaa
/- THE CELL 'sum', in the pinned program and in every row, IS THE sha256 OF THE DUMP (.gsa) THAT YtoiejgmfgcdniaaProg.lean LOADS. Nothing in Lean hashes anything: it is a label: what it is worth is what the hold of that sum in a sandbox is worth. -/
noncomputable def Try.pinned : Pinned := { name := "ytoiejgmfgcdniaa", sum := "911f834ea80e5af37ca4122a11242c263563fb0c5bacf35c019df8999aa1ff1b", checked := Try.checked }
namespace Rows
def none {H : Type} : Left H := { results := [], args := [] }

/-- 'probatelaw08.LowerShape': WHATEVER THE INPUT: true; the input reads as it did. -/
def lowerShapeSpec : ChangeSpec := { name := "lowerShape", fn := fun _ => fun
  | [d] => { results := [.lit (.bool true)], args := [d] }
  | _ => none }
def lowerShapeRow : OpenClaim := { program := "ytoiejgmfgcdniaa", sum := "911f834ea80e5af37ca4122a11242c263563fb0c5bacf35c019df8999aa1ff1b", func := "probate/probatelaw08.LowerShape", spec := "lowerShape", inPlace := ["internal/bytealg.IndexByteString", "internal/bytealg.IndexString"], unfollowed := true, recurses := true, named := ["internal/bytealg.MaxLen"], plainKeys := false, apart := false }
def LowerShapeSaid : Prop := lowerShapeRow.holds Try.pinned (OpenSpec.ofChange lowerShapeSpec)

/-- ITS FALSE NEIGHBOUR: 'it returns false'. Refute it at one input. -/
def lowerShapeWrong : ChangeSpec := { name := "lowerShape", fn := fun _ => fun
  | [d] => { results := [.lit (.bool false)], args := [d] }
  | _ => none }
def LowerShapeWrongFalsely : Prop := lowerShapeRow.holds Try.pinned (OpenSpec.ofChange lowerShapeWrong)

/-- 'probatelaw06.RulesTells': WHATEVER THE INPUT: true; the input reads as it did. -/
def rulesTellsSpec : ChangeSpec := { name := "rulesTells", fn := fun _ => fun
  | [d1, d2, d3] => { results := [.lit (.bool true)], args := [d1, d2, d3] }
  | _ => none }
def rulesTellsRow : OpenClaim := { program := "ytoiejgmfgcdniaa", sum := "911f834ea80e5af37ca4122a11242c263563fb0c5bacf35c019df8999aa1ff1b", func := "probate/probatelaw06.RulesTells", spec := "rulesTells", inPlace := ["internal/bytealg.IndexByteString", "internal/bytealg.IndexString"], unfollowed := true, recurses := true, named := ["internal/bytealg.MaxLen"], plainKeys := false, apart := false }
def RulesTellsSaid : Prop := rulesTellsRow.holds Try.pinned (OpenSpec.ofChange rulesTellsSpec)

/-- ITS FALSE NEIGHBOUR: 'it returns false'. Refute it at one input. -/
def rulesTellsWrong : ChangeSpec := { name := "rulesTells", fn := fun _ => fun
  | [d1, d2, d3] => { results := [.lit (.bool false)], args := [d1, d2, d3] }
  | _ => none }
def RulesTellsWrongFalsely : Prop := rulesTellsRow.holds Try.pinned (OpenSpec.ofChange rulesTellsWrong)

/-- 'probatelaw06.RulesMay': WHATEVER THE INPUT: true; the input reads as it did. -/
def rulesMaySpec : ChangeSpec := { name := "rulesMay", fn := fun _ => fun
  | [d] => { results := [.lit (.bool true)], args := [d] }
  | _ => none }
def rulesMayRow : OpenClaim := { program := "ytoiejgmfgcdniaa", sum := "911f834ea80e5af37ca4122a11242c263563fb0c5bacf35c019df8999aa1ff1b", func := "probate/probatelaw06.RulesMay", spec := "rulesMay", inPlace := ["internal/bytealg.IndexByteString", "internal/bytealg.IndexString"], unfollowed := true, recurses := true, named := ["internal/bytealg.MaxLen"], plainKeys := false, apart := false }
def RulesMaySaid : Prop := rulesMayRow.holds Try.pinned (OpenSpec.ofChange rulesMaySpec)

/-- ITS FALSE NEIGHBOUR: 'it returns false'. Refute it at one input. -/
def rulesMayWrong : ChangeSpec := { name := "rulesMay", fn := fun _ => fun
  | [d] => { results := [.lit (.bool false)], args := [d] }
  | _ => none }
def RulesMayWrongFalsely : Prop := rulesMayRow.holds Try.pinned (OpenSpec.ofChange rulesMayWrong)

/-- 'probatelaw06.RulesBrackets': WHATEVER THE INPUT: true; the input reads as it did. -/
def rulesBracketsSpec : ChangeSpec := { name := "rulesBrackets", fn := fun _ => fun
  | [d] => { results := [.lit (.bool true)], args := [d] }
  | _ => none }
def rulesBracketsRow : OpenClaim := { program := "ytoiejgmfgcdniaa", sum := "911f834ea80e5af37ca4122a11242c263563fb0c5bacf35c019df8999aa1ff1b", func := "probate/probatelaw06.RulesBrackets", spec := "rulesBrackets", inPlace := ["internal/bytealg.IndexByteString", "internal/bytealg.IndexString"], unfollowed := true, recurses := true, named := ["internal/bytealg.MaxLen"], plainKeys := false, apart := false }
def RulesBracketsSaid : Prop := rulesBracketsRow.holds Try.pinned (OpenSpec.ofChange rulesBracketsSpec)

/-- ITS FALSE NEIGHBOUR: 'it returns false'. Refute it at one input. -/
def rulesBracketsWrong : ChangeSpec := { name := "rulesBrackets", fn := fun _ => fun
  | [d] => { results := [.lit (.bool false)], args := [d] }
  | _ => none }
def RulesBracketsWrongFalsely : Prop := rulesBracketsRow.holds Try.pinned (OpenSpec.ofChange rulesBracketsWrong)

/-- 'probatelaw07.ShowTells': WHATEVER THE INPUT: true; the input reads as it did. -/
def showTellsSpec : ChangeSpec := { name := "showTells", fn := fun _ => fun
  | [d1, d2] => { results := [.lit (.bool true)], args := [d1, d2] }
  | _ => none }
def showTellsRow : OpenClaim := { program := "ytoiejgmfgcdniaa", sum := "911f834ea80e5af37ca4122a11242c263563fb0c5bacf35c019df8999aa1ff1b", func := "probate/probatelaw07.ShowTells", spec := "showTells", inPlace := ["internal/bytealg.IndexByteString", "internal/bytealg.IndexString", "internal/abi.NoEscape", "internal/bytealg.MakeNoZero"], unfollowed := true, recurses := true, named := ["internal/bytealg.MaxLen"], plainKeys := false, apart := false }
def ShowTellsSaid : Prop := showTellsRow.holds Try.pinned (OpenSpec.ofChange showTellsSpec)

/-- ITS FALSE NEIGHBOUR: 'it returns false'. Refute it at one input. -/
def showTellsWrong : ChangeSpec := { name := "showTells", fn := fun _ => fun
  | [d1, d2] => { results := [.lit (.bool false)], args := [d1, d2] }
  | _ => none }
def ShowTellsWrongFalsely : Prop := showTellsRow.holds Try.pinned (OpenSpec.ofChange showTellsWrong)

/-- 'probatelaw07.ShowBack': WHATEVER THE INPUT: true; the input reads as it did. -/
def showBackSpec : ChangeSpec := { name := "showBack", fn := fun _ => fun
  | [d1, d2] => { results := [.lit (.bool true)], args := [d1, d2] }
  | _ => none }
def showBackRow : OpenClaim := { program := "ytoiejgmfgcdniaa", sum := "911f834ea80e5af37ca4122a11242c263563fb0c5bacf35c019df8999aa1ff1b", func := "probate/probatelaw07.ShowBack", spec := "showBack", inPlace := ["internal/bytealg.IndexByteString", "internal/bytealg.IndexString", "internal/abi.NoEscape", "internal/bytealg.MakeNoZero"], unfollowed := true, recurses := true, named := ["internal/bytealg.MaxLen"], plainKeys := false, apart := false }
def ShowBackSaid : Prop := showBackRow.holds Try.pinned (OpenSpec.ofChange showBackSpec)

/-- ITS FALSE NEIGHBOUR: 'it returns false'. Refute it at one input. -/
def showBackWrong : ChangeSpec := { name := "showBack", fn := fun _ => fun
  | [d1, d2] => { results := [.lit (.bool false)], args := [d1, d2] }
  | _ => none }
def ShowBackWrongFalsely : Prop := showBackRow.holds Try.pinned (OpenSpec.ofChange showBackWrong)

/-- 'probatelaw07.ShowOne': WHATEVER THE INPUT: true; the input reads as it did. -/
def showOneSpec : ChangeSpec := { name := "showOne", fn := fun _ => fun
  | [d1, d2] => { results := [.lit (.bool true)], args := [d1, d2] }
  | _ => none }
def showOneRow : OpenClaim := { program := "ytoiejgmfgcdniaa", sum := "911f834ea80e5af37ca4122a11242c263563fb0c5bacf35c019df8999aa1ff1b", func := "probate/probatelaw07.ShowOne", spec := "showOne", inPlace := ["internal/bytealg.IndexByteString", "internal/bytealg.IndexString", "internal/abi.NoEscape", "internal/bytealg.MakeNoZero"], unfollowed := true, recurses := true, named := ["internal/bytealg.MaxLen"], plainKeys := false, apart := false }
def ShowOneSaid : Prop := showOneRow.holds Try.pinned (OpenSpec.ofChange showOneSpec)

/-- ITS FALSE NEIGHBOUR: 'it returns false'. Refute it at one input. -/
def showOneWrong : ChangeSpec := { name := "showOne", fn := fun _ => fun
  | [d1, d2] => { results := [.lit (.bool false)], args := [d1, d2] }
  | _ => none }
def ShowOneWrongFalsely : Prop := showOneRow.holds Try.pinned (OpenSpec.ofChange showOneWrong)

/-- 'probatelaw18.ChartTells': WHATEVER THE INPUT: true; the input reads as it did. -/
def chartTellsSpec : ChangeSpec := { name := "chartTells", fn := fun _ => fun
  | [d1, d2, d3] => { results := [.lit (.bool true)], args := [d1, d2, d3] }
  | _ => none }
def chartTellsRow : OpenClaim := { program := "ytoiejgmfgcdniaa", sum := "911f834ea80e5af37ca4122a11242c263563fb0c5bacf35c019df8999aa1ff1b", func := "probate/probatelaw18.ChartTells", spec := "chartTells", unfollowed := true, recurses := true, plainKeys := false, apart := false }
def ChartTellsSaid : Prop := chartTellsRow.holds Try.pinned (OpenSpec.ofChange chartTellsSpec)

/-- ITS FALSE NEIGHBOUR: 'it returns false'. Refute it at one input. -/
def chartTellsWrong : ChangeSpec := { name := "chartTells", fn := fun _ => fun
  | [d1, d2, d3] => { results := [.lit (.bool false)], args := [d1, d2, d3] }
  | _ => none }
def ChartTellsWrongFalsely : Prop := chartTellsRow.holds Try.pinned (OpenSpec.ofChange chartTellsWrong)

/-- 'probatelaw18.ChartStops': WHATEVER THE INPUT: true; the input reads as it did. -/
def chartStopsSpec : ChangeSpec := { name := "chartStops", fn := fun _ => fun
  | [d1, d2] => { results := [.lit (.bool true)], args := [d1, d2] }
  | _ => none }
def chartStopsRow : OpenClaim := { program := "ytoiejgmfgcdniaa", sum := "911f834ea80e5af37ca4122a11242c263563fb0c5bacf35c019df8999aa1ff1b", func := "probate/probatelaw18.ChartStops", spec := "chartStops", unfollowed := true, recurses := true, plainKeys := false, apart := false }
def ChartStopsSaid : Prop := chartStopsRow.holds Try.pinned (OpenSpec.ofChange chartStopsSpec)

/-- ITS FALSE NEIGHBOUR: 'it returns false'. Refute it at one input. -/
def chartStopsWrong : ChangeSpec := { name := "chartStops", fn := fun _ => fun
  | [d1, d2] => { results := [.lit (.bool false)], args := [d1, d2] }
  | _ => none }
def ChartStopsWrongFalsely : Prop := chartStopsRow.holds Try.pinned (OpenSpec.ofChange chartStopsWrong)

/-- 'probatelaw18.ChartMeans': WHATEVER THE INPUT: true; the input reads as it did. -/
def chartMeansSpec : ChangeSpec := { name := "chartMeans", fn := fun _ => fun
  | [d1, d2] => { results := [.lit (.bool true)], args := [d1, d2] }
  | _ => none }
def chartMeansRow : OpenClaim := { program := "ytoiejgmfgcdniaa", sum := "911f834ea80e5af37ca4122a11242c263563fb0c5bacf35c019df8999aa1ff1b", func := "probate/probatelaw18.ChartMeans", spec := "chartMeans", unfollowed := true, recurses := true, plainKeys := false, apart := false }
def ChartMeansSaid : Prop := chartMeansRow.holds Try.pinned (OpenSpec.ofChange chartMeansSpec)

/-- ITS FALSE NEIGHBOUR: 'it returns false'. Refute it at one input. -/
def chartMeansWrong : ChangeSpec := { name := "chartMeans", fn := fun _ => fun
  | [d1, d2] => { results := [.lit (.bool false)], args := [d1, d2] }
  | _ => none }
def ChartMeansWrongFalsely : Prop := chartMeansRow.holds Try.pinned (OpenSpec.ofChange chartMeansWrong)

/- THE SECOND FORM. 'bulk': how many values and letters a reading holds, each counted each time it is reached (what is shared counts as often as it is met; a slice's spare places count too). A statement '..UptoSaid' is the law's where the arguments, and the package variables that the reading takes, are together of bulk at most 1048576: NARROWER than '..Said'. Prove '..Said' where nothing that the law and all that it calls make is longer than what came in: it says more and counts as full. Else prove '..UptoSaid'. A law counts once. -/
mutual
def uptoBulk {H : Type} : DataW H → Nat
  | .lit (.string bytes) => bytes.length + 1
  | .lit _ => 1
  | .nil => 1
  | .ptr d => uptoBulk d + 1
  | .slice elems spare => uptoBulkAll elems + uptoBulkAll spare + 1
  | .agg parts => uptoBulkAll parts + 1
  | .iface _ d => uptoBulk d + 1
  | .map entries => uptoBulkEntries entries + 1
  | .held _ => 1
def uptoBulkAll {H : Type} : List (DataW H) → Nat
  | [] => 0
  | d :: r => uptoBulk d + uptoBulkAll r
def uptoBulkEntries {H : Type} : List (Lit × DataW H) → Nat
  | [] => 0
  | x :: r => uptoBulkEntry x + uptoBulkEntries r
def uptoBulkEntry {H : Type} : Lit × DataW H → Nat
  | (.string bytes, d) => bytes.length + uptoBulk d + 1
  | (_, d) => uptoBulk d + 1
 end
def uptoSmall : (H : Type) → List (DataW H) → Bool := fun _ ds => decide (uptoBulkAll ds ≤ 1048576)
def OpenSpec.upto (s : _root_.Go.ChangeSpec) : _root_.Go.OpenSpec := { _root_.Go.OpenSpec.ofChange s with cond := some uptoSmall }

/-- 'probatelaw08.LowerShape', WHERE WHAT IT READS IS OF BULK AT MOST 1048576: true; the input reads as it did. -/
def lowerShapeUptoRow : OpenClaim := { program := "ytoiejgmfgcdniaa", sum := "911f834ea80e5af37ca4122a11242c263563fb0c5bacf35c019df8999aa1ff1b", func := "probate/probatelaw08.LowerShape", spec := "lowerShape", inPlace := ["internal/bytealg.IndexByteString", "internal/bytealg.IndexString"], unfollowed := true, recurses := true, named := ["internal/bytealg.MaxLen"], plainKeys := false, apart := false, narrowed := true }
def LowerShapeUptoSaid : Prop := lowerShapeUptoRow.holds Try.pinned (OpenSpec.upto lowerShapeSpec)

/-- 'probatelaw06.RulesTells', WHERE WHAT IT READS IS OF BULK AT MOST 1048576: true; the input reads as it did. -/
def rulesTellsUptoRow : OpenClaim := { program := "ytoiejgmfgcdniaa", sum := "911f834ea80e5af37ca4122a11242c263563fb0c5bacf35c019df8999aa1ff1b", func := "probate/probatelaw06.RulesTells", spec := "rulesTells", inPlace := ["internal/bytealg.IndexByteString", "internal/bytealg.IndexString"], unfollowed := true, recurses := true, named := ["internal/bytealg.MaxLen"], plainKeys := false, apart := false, narrowed := true }
def RulesTellsUptoSaid : Prop := rulesTellsUptoRow.holds Try.pinned (OpenSpec.upto rulesTellsSpec)

/-- 'probatelaw06.RulesMay', WHERE WHAT IT READS IS OF BULK AT MOST 1048576: true; the input reads as it did. -/
def rulesMayUptoRow : OpenClaim := { program := "ytoiejgmfgcdniaa", sum := "911f834ea80e5af37ca4122a11242c263563fb0c5bacf35c019df8999aa1ff1b", func := "probate/probatelaw06.RulesMay", spec := "rulesMay", inPlace := ["internal/bytealg.IndexByteString", "internal/bytealg.IndexString"], unfollowed := true, recurses := true, named := ["internal/bytealg.MaxLen"], plainKeys := false, apart := false, narrowed := true }
def RulesMayUptoSaid : Prop := rulesMayUptoRow.holds Try.pinned (OpenSpec.upto rulesMaySpec)

/-- 'probatelaw06.RulesBrackets', WHERE WHAT IT READS IS OF BULK AT MOST 1048576: true; the input reads as it did. -/
def rulesBracketsUptoRow : OpenClaim := { program := "ytoiejgmfgcdniaa", sum := "911f834ea80e5af37ca4122a11242c263563fb0c5bacf35c019df8999aa1ff1b", func := "probate/probatelaw06.RulesBrackets", spec := "rulesBrackets", inPlace := ["internal/bytealg.IndexByteString", "internal/bytealg.IndexString"], unfollowed := true, recurses := true, named := ["internal/bytealg.MaxLen"], plainKeys := false, apart := false, narrowed := true }
def RulesBracketsUptoSaid : Prop := rulesBracketsUptoRow.holds Try.pinned (OpenSpec.upto rulesBracketsSpec)

/-- 'probatelaw07.ShowTells', WHERE WHAT IT READS IS OF BULK AT MOST 1048576: true; the input reads as it did. -/
def showTellsUptoRow : OpenClaim := { program := "ytoiejgmfgcdniaa", sum := "911f834ea80e5af37ca4122a11242c263563fb0c5bacf35c019df8999aa1ff1b", func := "probate/probatelaw07.ShowTells", spec := "showTells", inPlace := ["internal/bytealg.IndexByteString", "internal/bytealg.IndexString", "internal/abi.NoEscape", "internal/bytealg.MakeNoZero"], unfollowed := true, recurses := true, named := ["internal/bytealg.MaxLen"], plainKeys := false, apart := false, narrowed := true }
def ShowTellsUptoSaid : Prop := showTellsUptoRow.holds Try.pinned (OpenSpec.upto showTellsSpec)

/-- 'probatelaw07.ShowBack', WHERE WHAT IT READS IS OF BULK AT MOST 1048576: true; the input reads as it did. -/
def showBackUptoRow : OpenClaim := { program := "ytoiejgmfgcdniaa", sum := "911f834ea80e5af37ca4122a11242c263563fb0c5bacf35c019df8999aa1ff1b", func := "probate/probatelaw07.ShowBack", spec := "showBack", inPlace := ["internal/bytealg.IndexByteString", "internal/bytealg.IndexString", "internal/abi.NoEscape", "internal/bytealg.MakeNoZero"], unfollowed := true, recurses := true, named := ["internal/bytealg.MaxLen"], plainKeys := false, apart := false, narrowed := true }
def ShowBackUptoSaid : Prop := showBackUptoRow.holds Try.pinned (OpenSpec.upto showBackSpec)

/-- 'probatelaw07.ShowOne', WHERE WHAT IT READS IS OF BULK AT MOST 1048576: true; the input reads as it did. -/
def showOneUptoRow : OpenClaim := { program := "ytoiejgmfgcdniaa", sum := "911f834ea80e5af37ca4122a11242c263563fb0c5bacf35c019df8999aa1ff1b", func := "probate/probatelaw07.ShowOne", spec := "showOne", inPlace := ["internal/bytealg.IndexByteString", "internal/bytealg.IndexString", "internal/abi.NoEscape", "internal/bytealg.MakeNoZero"], unfollowed := true, recurses := true, named := ["internal/bytealg.MaxLen"], plainKeys := false, apart := false, narrowed := true }
def ShowOneUptoSaid : Prop := showOneUptoRow.holds Try.pinned (OpenSpec.upto showOneSpec)

/-- 'probatelaw18.ChartTells', WHERE WHAT IT READS IS OF BULK AT MOST 1048576: true; the input reads as it did. -/
def chartTellsUptoRow : OpenClaim := { program := "ytoiejgmfgcdniaa", sum := "911f834ea80e5af37ca4122a11242c263563fb0c5bacf35c019df8999aa1ff1b", func := "probate/probatelaw18.ChartTells", spec := "chartTells", unfollowed := true, recurses := true, plainKeys := false, apart := false, narrowed := true }
def ChartTellsUptoSaid : Prop := chartTellsUptoRow.holds Try.pinned (OpenSpec.upto chartTellsSpec)

/-- 'probatelaw18.ChartStops', WHERE WHAT IT READS IS OF BULK AT MOST 1048576: true; the input reads as it did. -/
def chartStopsUptoRow : OpenClaim := { program := "ytoiejgmfgcdniaa", sum := "911f834ea80e5af37ca4122a11242c263563fb0c5bacf35c019df8999aa1ff1b", func := "probate/probatelaw18.ChartStops", spec := "chartStops", unfollowed := true, recurses := true, plainKeys := false, apart := false, narrowed := true }
def ChartStopsUptoSaid : Prop := chartStopsUptoRow.holds Try.pinned (OpenSpec.upto chartStopsSpec)

/-- 'probatelaw18.ChartMeans', WHERE WHAT IT READS IS OF BULK AT MOST 1048576: true; the input reads as it did. -/
def chartMeansUptoRow : OpenClaim := { program := "ytoiejgmfgcdniaa", sum := "911f834ea80e5af37ca4122a11242c263563fb0c5bacf35c019df8999aa1ff1b", func := "probate/probatelaw18.ChartMeans", spec := "chartMeans", unfollowed := true, recurses := true, plainKeys := false, apart := false, narrowed := true }
def ChartMeansUptoSaid : Prop := chartMeansUptoRow.holds Try.pinned (OpenSpec.upto chartMeansSpec)

end Rows
end Go.Proofs.Ytoiejgmfgcdniaa
