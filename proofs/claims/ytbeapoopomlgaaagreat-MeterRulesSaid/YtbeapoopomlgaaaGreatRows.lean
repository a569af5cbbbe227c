/-
  No cell of these rows narrows 'for every input' (looked for: loops, veiled, ifaces, maps, wideKeys, modest, calm, conditions, laid).
  DERIVED. THE GIVEN ROWS OF THIS SEAT. 7 by the template 'for every input the law returns true; each argument reads behind the call as it read before'; 0 by the template 'total and deterministic' (their statements: YtbeapoopomlgaaaGreatTotals.lean).
  GIVEN WITH THE SEED: the statements are not yours to turn. If you find one false, say at which input.
  Laid BY PROGRAM, IN A SANDBOX (cutbox-rows.mjs): the forced cells as the released guide's own fill.sh prints them over the translation 5275c7996824c77d… (all of the seat's roots in one cut). By AI agents, Wed Nov 11 2026. No macro, syntax, notation, axiom, sorry.
-/
import Derived.Test.YtbeapoopomlgaaaGreatChecked
import GoSem.Claim
import GoSem.ClaimJoined
import GoSem.ClaimMapViews
import Derived.JoinedTies
import Derived.KernelRfl
namespace Go.Proofs.YtbeapoopomlgaaaGreat
/- THE CELL 'sum', in the pinned program and in every row, IS THE sha256 OF THE DUMP (.gsa) THAT YtbeapoopomlgaaaGreatProg.lean LOADS. Nothing in Lean hashes anything: it is a label: what it is worth is what the hold of that sum in a sandbox is worth. -/
noncomputable def Tryz.pinned : Pinned := { name := "ytbeapoopomlgaaagreat", sum := "5275c7996824c77dcfa6025811cc810ef951fe6c52472f4921351f7f113eee98", checked := Tryz.checked }
namespace Rows
def none {H : Type} : Left H := { results := [], args := [] }

/-- 'ramagelaw21.MeterCounts': WHATEVER THE INPUT: true; the input reads as it did. -/
def meterCountsSpec : ChangeSpec := { name := "meterCounts", fn := fun _ => fun
  | [d1, d2, d3, d4] => { results := [.lit (.bool true)], args := [d1, d2, d3, d4] }
  | _ => none }
def meterCountsRow : OpenClaim := { program := "ytbeapoopomlgaaagreat", sum := "5275c7996824c77dcfa6025811cc810ef951fe6c52472f4921351f7f113eee98", func := "ramage/ramagelaw21.MeterCounts", spec := "meterCounts", inPlace := ["math/bits.Add64", "math/bits.Sub64"], unfollowed := true, recurses := true, named := ["math/bits.divideError", "math/bits.overflowError"], plainKeys := false, apart := false }
def MeterCountsSaid : Prop := meterCountsRow.holds Tryz.pinned (OpenSpec.ofChange meterCountsSpec)

/-- ITS FALSE NEIGHBOUR: 'it returns false'. Refute it at one input. -/
def meterCountsWrong : ChangeSpec := { name := "meterCounts", fn := fun _ => fun
  | [d1, d2, d3, d4] => { results := [.lit (.bool false)], args := [d1, d2, d3, d4] }
  | _ => none }
def MeterCountsWrongFalsely : Prop := meterCountsRow.holds Tryz.pinned (OpenSpec.ofChange meterCountsWrong)

/-- 'ramagelaw27.SiftLeast': WHATEVER THE INPUT: true; the input reads as it did. -/
def siftLeastSpec : ChangeSpec := { name := "siftLeast", fn := fun _ => fun
  | [d1, d2] => { results := [.lit (.bool true)], args := [d1, d2] }
  | _ => none }
def siftLeastRow : OpenClaim := { program := "ytbeapoopomlgaaagreat", sum := "5275c7996824c77dcfa6025811cc810ef951fe6c52472f4921351f7f113eee98", func := "ramage/ramagelaw27.SiftLeast", spec := "siftLeast", unfollowed := true, recurses := true, plainKeys := false, apart := false }
def SiftLeastSaid : Prop := siftLeastRow.holds Tryz.pinned (OpenSpec.ofChange siftLeastSpec)

/-- ITS FALSE NEIGHBOUR: 'it returns false'. Refute it at one input. -/
def siftLeastWrong : ChangeSpec := { name := "siftLeast", fn := fun _ => fun
  | [d1, d2] => { results := [.lit (.bool false)], args := [d1, d2] }
  | _ => none }
def SiftLeastWrongFalsely : Prop := siftLeastRow.holds Tryz.pinned (OpenSpec.ofChange siftLeastWrong)

/-- 'ramagelaw27.SiftGoes': WHATEVER THE INPUT: true; the input reads as it did. -/
def siftGoesSpec : ChangeSpec := { name := "siftGoes", fn := fun _ => fun
  | [d1, d2, d3] => { results := [.lit (.bool true)], args := [d1, d2, d3] }
  | _ => none }
def siftGoesRow : OpenClaim := { program := "ytbeapoopomlgaaagreat", sum := "5275c7996824c77dcfa6025811cc810ef951fe6c52472f4921351f7f113eee98", func := "ramage/ramagelaw27.SiftGoes", spec := "siftGoes", unfollowed := true, recurses := true, plainKeys := false, apart := false }
def SiftGoesSaid : Prop := siftGoesRow.holds Tryz.pinned (OpenSpec.ofChange siftGoesSpec)

/-- ITS FALSE NEIGHBOUR: 'it returns false'. Refute it at one input. -/
def siftGoesWrong : ChangeSpec := { name := "siftGoes", fn := fun _ => fun
  | [d1, d2, d3] => { results := [.lit (.bool false)], args := [d1, d2, d3] }
  | _ => none }
def SiftGoesWrongFalsely : Prop := siftGoesRow.holds Tryz.pinned (OpenSpec.ofChange siftGoesWrong)

/-- 'ramagelaw27.SiftSmall': WHATEVER THE INPUT: true; the input reads as it did. -/
def siftSmallSpec : ChangeSpec := { name := "siftSmall", fn := fun _ => fun
  | [d1, d2, d3] => { results := [.lit (.bool true)], args := [d1, d2, d3] }
  | _ => none }
def siftSmallRow : OpenClaim := { program := "ytbeapoopomlgaaagreat", sum := "5275c7996824c77dcfa6025811cc810ef951fe6c52472f4921351f7f113eee98", func := "ramage/ramagelaw27.SiftSmall", spec := "siftSmall", unfollowed := true, recurses := true, plainKeys := false, apart := false }
def SiftSmallSaid : Prop := siftSmallRow.holds Tryz.pinned (OpenSpec.ofChange siftSmallSpec)

/-- ITS FALSE NEIGHBOUR: 'it returns false'. Refute it at one input. -/
def siftSmallWrong : ChangeSpec := { name := "siftSmall", fn := fun _ => fun
  | [d1, d2, d3] => { results := [.lit (.bool false)], args := [d1, d2, d3] }
  | _ => none }
def SiftSmallWrongFalsely : Prop := siftSmallRow.holds Tryz.pinned (OpenSpec.ofChange siftSmallWrong)

/-- 'ramagelaw27.SiftNil': WHATEVER THE INPUT: true; the input reads as it did. -/
def siftNilSpec : ChangeSpec := { name := "siftNil", fn := fun _ => fun
  | [d1, d2] => { results := [.lit (.bool true)], args := [d1, d2] }
  | _ => none }
def siftNilRow : OpenClaim := { program := "ytbeapoopomlgaaagreat", sum := "5275c7996824c77dcfa6025811cc810ef951fe6c52472f4921351f7f113eee98", func := "ramage/ramagelaw27.SiftNil", spec := "siftNil", unfollowed := true, recurses := true, plainKeys := false, apart := false }
def SiftNilSaid : Prop := siftNilRow.holds Tryz.pinned (OpenSpec.ofChange siftNilSpec)

/-- ITS FALSE NEIGHBOUR: 'it returns false'. Refute it at one input. -/
def siftNilWrong : ChangeSpec := { name := "siftNil", fn := fun _ => fun
  | [d1, d2] => { results := [.lit (.bool false)], args := [d1, d2] }
  | _ => none }
def SiftNilWrongFalsely : Prop := siftNilRow.holds Tryz.pinned (OpenSpec.ofChange siftNilWrong)

/-- 'ramagelaw21.MeterRules': WHATEVER THE INPUT: true; the input reads as it did. -/
def meterRulesSpec : ChangeSpec := { name := "meterRules", fn := fun _ => fun
  | [d1, d2, d3, d4] => { results := [.lit (.bool true)], args := [d1, d2, d3, d4] }
  | _ => none }
def meterRulesRow : OpenClaim := { program := "ytbeapoopomlgaaagreat", sum := "5275c7996824c77dcfa6025811cc810ef951fe6c52472f4921351f7f113eee98", func := "ramage/ramagelaw21.MeterRules", spec := "meterRules", inPlace := ["math/bits.Add64", "math/bits.Sub64"], unfollowed := true, recurses := true, named := ["math/bits.divideError", "math/bits.overflowError"], plainKeys := false, apart := false }
def MeterRulesSaid : Prop := meterRulesRow.holds Tryz.pinned (OpenSpec.ofChange meterRulesSpec)

/-- ITS FALSE NEIGHBOUR: 'it returns false'. Refute it at one input. -/
def meterRulesWrong : ChangeSpec := { name := "meterRules", fn := fun _ => fun
  | [d1, d2, d3, d4] => { results := [.lit (.bool false)], args := [d1, d2, d3, d4] }
  | _ => none }
def MeterRulesWrongFalsely : Prop := meterRulesRow.holds Tryz.pinned (OpenSpec.ofChange meterRulesWrong)

/-- 'ramagelaw27.SiftAsks': WHATEVER THE INPUT: true; the input reads as it did. -/
def siftAsksSpec : ChangeSpec := { name := "siftAsks", fn := fun _ => fun
  | [d1, d2, d3, d4, d5] => { results := [.lit (.bool true)], args := [d1, d2, d3, d4, d5] }
  | _ => none }
def siftAsksRow : OpenClaim := { program := "ytbeapoopomlgaaagreat", sum := "5275c7996824c77dcfa6025811cc810ef951fe6c52472f4921351f7f113eee98", func := "ramage/ramagelaw27.SiftAsks", spec := "siftAsks", unfollowed := true, recurses := true, plainKeys := false, apart := false }
def SiftAsksSaid : Prop := siftAsksRow.holds Tryz.pinned (OpenSpec.ofChange siftAsksSpec)

/-- ITS FALSE NEIGHBOUR: 'it returns false'. Refute it at one input. -/
def siftAsksWrong : ChangeSpec := { name := "siftAsks", fn := fun _ => fun
  | [d1, d2, d3, d4, d5] => { results := [.lit (.bool false)], args := [d1, d2, d3, d4, d5] }
  | _ => none }
def SiftAsksWrongFalsely : Prop := siftAsksRow.holds Tryz.pinned (OpenSpec.ofChange siftAsksWrong)

/- THE SECOND FORM. 'bulk': how many values and letters a reading holds, each counted each time it is reached (what is shared counts as often as it is met; a slice's spare places count too). A statement '..UptoSaid' is the law's where the arguments, and the package variables that the reading takes, are together of bulk at most 1048576: NARROWER than '..Said'. Prove '..Said' where nothing that the law and all that it calls make is longer than what came in: it says more and counts as full. Else prove '..UptoSaid'. A law counts once. -/
mutual
def uptoBulk {H : Type} : DataW H → Nat
  | .lit (.string bytes) => bytes.length + 1
  | .lit _ => 1
  | .nil => 1
  | .ptr d => uptoBulk d + 1
  | .slice elems spare => uptoBulkAll elems + uptoBulkAll spare + 1
  | .agg parts => uptoBulkAll parts + 1
  | .iface _ d => uptoBulk d + 1
  | .map entries => uptoBulkEntries entries + 1
  | .held _ => 1
def uptoBulkAll {H : Type} : List (DataW H) → Nat
  | [] => 0
  | d :: r => uptoBulk d + uptoBulkAll r
def uptoBulkEntries {H : Type} : List (Lit × DataW H) → Nat
  | [] => 0
  | x :: r => uptoBulkEntry x + uptoBulkEntries r
def uptoBulkEntry {H : Type} : Lit × DataW H → Nat
  | (.string bytes, d) => bytes.length + uptoBulk d + 1
  | (_, d) => uptoBulk d + 1
 end
def uptoSmall : (H : Type) → List (DataW H) → Bool := fun _ ds => decide (uptoBulkAll ds ≤ 1048576)
def OpenSpec.upto (s : _root_.Go.ChangeSpec) : _root_.Go.OpenSpec := { _root_.Go.OpenSpec.ofChange s with cond := some uptoSmall }

/-- 'ramagelaw21.MeterCounts', WHERE WHAT IT READS IS OF BULK AT MOST 1048576: true; the input reads as it did. -/
def meterCountsUptoRow : OpenClaim := { program := "ytbeapoopomlgaaagreat", sum := "5275c7996824c77dcfa6025811cc810ef951fe6c52472f4921351f7f113eee98", func := "ramage/ramagelaw21.MeterCounts", spec := "meterCounts", inPlace := ["math/bits.Add64", "math/bits.Sub64"], unfollowed := true, recurses := true, named := ["math/bits.divideError", "math/bits.overflowError"], plainKeys := false, apart := false, narrowed := true }
def MeterCountsUptoSaid : Prop := meterCountsUptoRow.holds Tryz.pinned (OpenSpec.upto meterCountsSpec)

/-- 'ramagelaw27.SiftLeast', WHERE WHAT IT READS IS OF BULK AT MOST 1048576: true; the input reads as it did. -/
def siftLeastUptoRow : OpenClaim := { program := "ytbeapoopomlgaaagreat", sum := "5275c7996824c77dcfa6025811cc810ef951fe6c52472f4921351f7f113eee98", func := "ramage/ramagelaw27.SiftLeast", spec := "siftLeast", unfollowed := true, recurses := true, plainKeys := false, apart := false, narrowed := true }
def SiftLeastUptoSaid : Prop := siftLeastUptoRow.holds Tryz.pinned (OpenSpec.upto siftLeastSpec)

/-- 'ramagelaw27.SiftGoes', WHERE WHAT IT READS IS OF BULK AT MOST 1048576: true; the input reads as it did. -/
def siftGoesUptoRow : OpenClaim := { program := "ytbeapoopomlgaaagreat", sum := "5275c7996824c77dcfa6025811cc810ef951fe6c52472f4921351f7f113eee98", func := "ramage/ramagelaw27.SiftGoes", spec := "siftGoes", unfollowed := true, recurses := true, plainKeys := false, apart := false, narrowed := true }
def SiftGoesUptoSaid : Prop := siftGoesUptoRow.holds Tryz.pinned (OpenSpec.upto siftGoesSpec)

/-- 'ramagelaw27.SiftSmall', WHERE WHAT IT READS IS OF BULK AT MOST 1048576: true; the input reads as it did. -/
def siftSmallUptoRow : OpenClaim := { program := "ytbeapoopomlgaaagreat", sum := "5275c7996824c77dcfa6025811cc810ef951fe6c52472f4921351f7f113eee98", func := "ramage/ramagelaw27.SiftSmall", spec := "siftSmall", unfollowed := true, recurses := true, plainKeys := false, apart := false, narrowed := true }
def SiftSmallUptoSaid : Prop := siftSmallUptoRow.holds Tryz.pinned (OpenSpec.upto siftSmallSpec)

/-- 'ramagelaw27.SiftNil', WHERE WHAT IT READS IS OF BULK AT MOST 1048576: true; the input reads as it did. -/
def siftNilUptoRow : OpenClaim := { program := "ytbeapoopomlgaaagreat", sum := "5275c7996824c77dcfa6025811cc810ef951fe6c52472f4921351f7f113eee98", func := "ramage/ramagelaw27.SiftNil", spec := "siftNil", unfollowed := true, recurses := true, plainKeys := false, apart := false, narrowed := true }
def SiftNilUptoSaid : Prop := siftNilUptoRow.holds Tryz.pinned (OpenSpec.upto siftNilSpec)

/-- 'ramagelaw21.MeterRules', WHERE WHAT IT READS IS OF BULK AT MOST 1048576: true; the input reads as it did. -/
def meterRulesUptoRow : OpenClaim := { program := "ytbeapoopomlgaaagreat", sum := "5275c7996824c77dcfa6025811cc810ef951fe6c52472f4921351f7f113eee98", func := "ramage/ramagelaw21.MeterRules", spec := "meterRules", inPlace := ["math/bits.Add64", "math/bits.Sub64"], unfollowed := true, recurses := true, named := ["math/bits.divideError", "math/bits.overflowError"], plainKeys := false, apart := false, narrowed := true }
def MeterRulesUptoSaid : Prop := meterRulesUptoRow.holds Tryz.pinned (OpenSpec.upto meterRulesSpec)

/-- 'ramagelaw27.SiftAsks', WHERE WHAT IT READS IS OF BULK AT MOST 1048576: true; the input reads as it did. -/
def siftAsksUptoRow : OpenClaim := { program := "ytbeapoopomlgaaagreat", sum := "5275c7996824c77dcfa6025811cc810ef951fe6c52472f4921351f7f113eee98", func := "ramage/ramagelaw27.SiftAsks", spec := "siftAsks", unfollowed := true, recurses := true, plainKeys := false, apart := false, narrowed := true }
def SiftAsksUptoSaid : Prop := siftAsksUptoRow.holds Tryz.pinned (OpenSpec.upto siftAsksSpec)

end Rows
end Go.Proofs.YtbeapoopomlgaaaGreat
