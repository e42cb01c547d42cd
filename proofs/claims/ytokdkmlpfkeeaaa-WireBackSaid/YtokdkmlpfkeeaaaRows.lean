/-
  No cell of these rows narrows 'for every input' (looked for: loops, veiled, ifaces, maps, wideKeys, modest, calm, conditions, laid).
  DERIVED. THE GIVEN ROWS OF THIS SEAT. 11 by the template 'for every input the law returns true; each argument reads behind the call as it read before'; 0 by the template 'total and deterministic' (their statements: YtokdkmlpfkeeaaaTotals.lean).
  GIVEN WITH THE SEED: the statements are not yours to turn. If you find one false, say at which input.
  Laid BY PROGRAM, IN A SANDBOX (cutbox-rows.mjs): the forced cells as the released guide's own fill.sh prints them over the translation 9bc2c5f6c96feea6… (all of the seat's roots in one cut). By AI agents, Wed Nov 11 2026. No macro, syntax, notation, axiom, sorry.
-/
import Derived.Test.YtokdkmlpfkeeaaaChecked
import GoSem.Claim
import GoSem.ClaimJoined
import GoSem.ClaimMapViews
import Derived.JoinedTies
import Derived.KernelRfl
namespace Go.Proofs.Ytokdkmlpfkeeaaa
/- THE CELL 'sum', in the pinned program and in every row, IS THE sha256 OF THE DUMP (.gsa) THAT YtokdkmlpfkeeaaaProg.lean LOADS. Nothing in Lean hashes anything: it is a label: what it is worth is what the hold of that sum in a sandbox is worth. -/
noncomputable def Try.pinned : Pinned := { name := "ytokdkmlpfkeeaaa", sum := "9bc2c5f6c96feea67884baed4eac94497c7897d745573487a19404e8fec499ce", checked := Try.checked }
namespace Rows
def none {H : Type} : Left H := { results := [], args := [] }

/-- 'fuseboxlaw05.EventRight': WHATEVER THE INPUT: true; the input reads as it did. -/
def eventRightSpec : ChangeSpec := { name := "eventRight", fn := fun _ => fun
  | [d1, d2, d3, d4] => { results := [.lit (.bool true)], args := [d1, d2, d3, d4] }
  | _ => none }
def eventRightRow : OpenClaim := { program := "ytokdkmlpfkeeaaa", sum := "9bc2c5f6c96feea67884baed4eac94497c7897d745573487a19404e8fec499ce", func := "fusebox/fuseboxlaw05.EventRight", spec := "eventRight", apart := false }
def EventRightSaid : Prop := eventRightRow.holds Try.pinned (OpenSpec.ofChange eventRightSpec)

/-- ITS FALSE NEIGHBOUR: 'it returns false'. Refute it at one input. -/
def eventRightWrong : ChangeSpec := { name := "eventRight", fn := fun _ => fun
  | [d1, d2, d3, d4] => { results := [.lit (.bool false)], args := [d1, d2, d3, d4] }
  | _ => none }
def EventRightWrongFalsely : Prop := eventRightRow.holds Try.pinned (OpenSpec.ofChange eventRightWrong)

/-- 'fuseboxlaw05.EventFields': WHATEVER THE INPUT: true; the input reads as it did. -/
def eventFieldsSpec : ChangeSpec := { name := "eventFields", fn := fun _ => fun
  | [d1, d2] => { results := [.lit (.bool true)], args := [d1, d2] }
  | _ => none }
def eventFieldsRow : OpenClaim := { program := "ytokdkmlpfkeeaaa", sum := "9bc2c5f6c96feea67884baed4eac94497c7897d745573487a19404e8fec499ce", func := "fusebox/fuseboxlaw05.EventFields", spec := "eventFields", apart := false }
def EventFieldsSaid : Prop := eventFieldsRow.holds Try.pinned (OpenSpec.ofChange eventFieldsSpec)

/-- ITS FALSE NEIGHBOUR: 'it returns false'. Refute it at one input. -/
def eventFieldsWrong : ChangeSpec := { name := "eventFields", fn := fun _ => fun
  | [d1, d2] => { results := [.lit (.bool false)], args := [d1, d2] }
  | _ => none }
def EventFieldsWrongFalsely : Prop := eventFieldsRow.holds Try.pinned (OpenSpec.ofChange eventFieldsWrong)

/-- 'fuseboxlaw02.TallyTurns': WHATEVER THE INPUT: true; the input reads as it did. -/
def tallyTurnsSpec : ChangeSpec := { name := "tallyTurns", fn := fun _ => fun
  | [d1, d2, d3, d4, d5, d6] => { results := [.lit (.bool true)], args := [d1, d2, d3, d4, d5, d6] }
  | _ => none }
def tallyTurnsRow : OpenClaim := { program := "ytokdkmlpfkeeaaa", sum := "9bc2c5f6c96feea67884baed4eac94497c7897d745573487a19404e8fec499ce", func := "fusebox/fuseboxlaw02.TallyTurns", spec := "tallyTurns", inPlace := ["math.archTrunc", "math.Float64bits", "math.Float64frombits"], apart := false }
def TallyTurnsSaid : Prop := tallyTurnsRow.holds Try.pinned (OpenSpec.ofChange tallyTurnsSpec)

/-- ITS FALSE NEIGHBOUR: 'it returns false'. Refute it at one input. -/
def tallyTurnsWrong : ChangeSpec := { name := "tallyTurns", fn := fun _ => fun
  | [d1, d2, d3, d4, d5, d6] => { results := [.lit (.bool false)], args := [d1, d2, d3, d4, d5, d6] }
  | _ => none }
def TallyTurnsWrongFalsely : Prop := tallyTurnsRow.holds Try.pinned (OpenSpec.ofChange tallyTurnsWrong)

/-- 'fuseboxlaw02.TallyBeat': WHATEVER THE INPUT: true; the input reads as it did. -/
def tallyBeatSpec : ChangeSpec := { name := "tallyBeat", fn := fun _ => fun
  | [d1, d2, d3] => { results := [.lit (.bool true)], args := [d1, d2, d3] }
  | _ => none }
def tallyBeatRow : OpenClaim := { program := "ytokdkmlpfkeeaaa", sum := "9bc2c5f6c96feea67884baed4eac94497c7897d745573487a19404e8fec499ce", func := "fusebox/fuseboxlaw02.TallyBeat", spec := "tallyBeat", inPlace := ["math.archTrunc", "math.Float64bits", "math.Float64frombits"], apart := false }
def TallyBeatSaid : Prop := tallyBeatRow.holds Try.pinned (OpenSpec.ofChange tallyBeatSpec)

/-- ITS FALSE NEIGHBOUR: 'it returns false'. Refute it at one input. -/
def tallyBeatWrong : ChangeSpec := { name := "tallyBeat", fn := fun _ => fun
  | [d1, d2, d3] => { results := [.lit (.bool false)], args := [d1, d2, d3] }
  | _ => none }
def TallyBeatWrongFalsely : Prop := tallyBeatRow.holds Try.pinned (OpenSpec.ofChange tallyBeatWrong)

/-- 'fuseboxlaw13.HistRight': WHATEVER THE INPUT: true; the input reads as it did. -/
def histRightSpec : ChangeSpec := { name := "histRight", fn := fun _ => fun
  | [d1, d2, d3, d4] => { results := [.lit (.bool true)], args := [d1, d2, d3, d4] }
  | _ => none }
def histRightRow : OpenClaim := { program := "ytokdkmlpfkeeaaa", sum := "9bc2c5f6c96feea67884baed4eac94497c7897d745573487a19404e8fec499ce", func := "fusebox/fuseboxlaw13.HistRight", spec := "histRight", unfollowed := true, recurses := true, apart := false }
def HistRightSaid : Prop := histRightRow.holds Try.pinned (OpenSpec.ofChange histRightSpec)

/-- ITS FALSE NEIGHBOUR: 'it returns false'. Refute it at one input. -/
def histRightWrong : ChangeSpec := { name := "histRight", fn := fun _ => fun
  | [d1, d2, d3, d4] => { results := [.lit (.bool false)], args := [d1, d2, d3, d4] }
  | _ => none }
def HistRightWrongFalsely : Prop := histRightRow.holds Try.pinned (OpenSpec.ofChange histRightWrong)

/-- 'fuseboxlaw13.HistGrows': WHATEVER THE INPUT: true; the input reads as it did. -/
def histGrowsSpec : ChangeSpec := { name := "histGrows", fn := fun _ => fun
  | [d1, d2] => { results := [.lit (.bool true)], args := [d1, d2] }
  | _ => none }
def histGrowsRow : OpenClaim := { program := "ytokdkmlpfkeeaaa", sum := "9bc2c5f6c96feea67884baed4eac94497c7897d745573487a19404e8fec499ce", func := "fusebox/fuseboxlaw13.HistGrows", spec := "histGrows", unfollowed := true, recurses := true, apart := false }
def HistGrowsSaid : Prop := histGrowsRow.holds Try.pinned (OpenSpec.ofChange histGrowsSpec)

/-- ITS FALSE NEIGHBOUR: 'it returns false'. Refute it at one input. -/
def histGrowsWrong : ChangeSpec := { name := "histGrows", fn := fun _ => fun
  | [d1, d2] => { results := [.lit (.bool false)], args := [d1, d2] }
  | _ => none }
def HistGrowsWrongFalsely : Prop := histGrowsRow.holds Try.pinned (OpenSpec.ofChange histGrowsWrong)

/-- 'fuseboxlaw13.HistOrder': WHATEVER THE INPUT: true; the input reads as it did. -/
def histOrderSpec : ChangeSpec := { name := "histOrder", fn := fun _ => fun
  | [d1, d2] => { results := [.lit (.bool true)], args := [d1, d2] }
  | _ => none }
def histOrderRow : OpenClaim := { program := "ytokdkmlpfkeeaaa", sum := "9bc2c5f6c96feea67884baed4eac94497c7897d745573487a19404e8fec499ce", func := "fusebox/fuseboxlaw13.HistOrder", spec := "histOrder", unfollowed := true, recurses := true, apart := false }
def HistOrderSaid : Prop := histOrderRow.holds Try.pinned (OpenSpec.ofChange histOrderSpec)

/-- ITS FALSE NEIGHBOUR: 'it returns false'. Refute it at one input. -/
def histOrderWrong : ChangeSpec := { name := "histOrder", fn := fun _ => fun
  | [d1, d2] => { results := [.lit (.bool false)], args := [d1, d2] }
  | _ => none }
def HistOrderWrongFalsely : Prop := histOrderRow.holds Try.pinned (OpenSpec.ofChange histOrderWrong)

/-- 'fuseboxlaw08.FrameRight': WHATEVER THE INPUT: true; the input reads as it did. -/
def frameRightSpec : ChangeSpec := { name := "frameRight", fn := fun _ => fun
  | [d1, d2, d3, d4] => { results := [.lit (.bool true)], args := [d1, d2, d3, d4] }
  | _ => none }
def frameRightRow : OpenClaim := { program := "ytokdkmlpfkeeaaa", sum := "9bc2c5f6c96feea67884baed4eac94497c7897d745573487a19404e8fec499ce", func := "fusebox/fuseboxlaw08.FrameRight", spec := "frameRight", apart := false }
def FrameRightSaid : Prop := frameRightRow.holds Try.pinned (OpenSpec.ofChange frameRightSpec)

/-- ITS FALSE NEIGHBOUR: 'it returns false'. Refute it at one input. -/
def frameRightWrong : ChangeSpec := { name := "frameRight", fn := fun _ => fun
  | [d1, d2, d3, d4] => { results := [.lit (.bool false)], args := [d1, d2, d3, d4] }
  | _ => none }
def FrameRightWrongFalsely : Prop := frameRightRow.holds Try.pinned (OpenSpec.ofChange frameRightWrong)

/-- 'fuseboxlaw08.FrameBack': WHATEVER THE INPUT: true; the input reads as it did. -/
def frameBackSpec : ChangeSpec := { name := "frameBack", fn := fun _ => fun
  | [d1, d2, d3, d4, d5, d6] => { results := [.lit (.bool true)], args := [d1, d2, d3, d4, d5, d6] }
  | _ => none }
def frameBackRow : OpenClaim := { program := "ytokdkmlpfkeeaaa", sum := "9bc2c5f6c96feea67884baed4eac94497c7897d745573487a19404e8fec499ce", func := "fusebox/fuseboxlaw08.FrameBack", spec := "frameBack", apart := false }
def FrameBackSaid : Prop := frameBackRow.holds Try.pinned (OpenSpec.ofChange frameBackSpec)

/-- ITS FALSE NEIGHBOUR: 'it returns false'. Refute it at one input. -/
def frameBackWrong : ChangeSpec := { name := "frameBack", fn := fun _ => fun
  | [d1, d2, d3, d4, d5, d6] => { results := [.lit (.bool false)], args := [d1, d2, d3, d4, d5, d6] }
  | _ => none }
def FrameBackWrongFalsely : Prop := frameBackRow.holds Try.pinned (OpenSpec.ofChange frameBackWrong)

/-- 'fuseboxlaw03.WireBack': WHATEVER THE INPUT: true; the input reads as it did. -/
def wireBackSpec : ChangeSpec := { name := "wireBack", fn := fun _ => fun
  | [d1, d2, d3, d4] => { results := [.lit (.bool true)], args := [d1, d2, d3, d4] }
  | _ => none }
def wireBackRow : OpenClaim := { program := "ytokdkmlpfkeeaaa", sum := "9bc2c5f6c96feea67884baed4eac94497c7897d745573487a19404e8fec499ce", func := "fusebox/fuseboxlaw03.WireBack", spec := "wireBack", unfollowed := true, recurses := true, apart := false }
def WireBackSaid : Prop := wireBackRow.holds Try.pinned (OpenSpec.ofChange wireBackSpec)

/-- ITS FALSE NEIGHBOUR: 'it returns false'. Refute it at one input. -/
def wireBackWrong : ChangeSpec := { name := "wireBack", fn := fun _ => fun
  | [d1, d2, d3, d4] => { results := [.lit (.bool false)], args := [d1, d2, d3, d4] }
  | _ => none }
def WireBackWrongFalsely : Prop := wireBackRow.holds Try.pinned (OpenSpec.ofChange wireBackWrong)

/-- 'fuseboxlaw03.WireOne': WHATEVER THE INPUT: true; the input reads as it did. -/
def wireOneSpec : ChangeSpec := { name := "wireOne", fn := fun _ => fun
  | [d1, d2, d3] => { results := [.lit (.bool true)], args := [d1, d2, d3] }
  | _ => none }
def wireOneRow : OpenClaim := { program := "ytokdkmlpfkeeaaa", sum := "9bc2c5f6c96feea67884baed4eac94497c7897d745573487a19404e8fec499ce", func := "fusebox/fuseboxlaw03.WireOne", spec := "wireOne", unfollowed := true, recurses := true, apart := false }
def WireOneSaid : Prop := wireOneRow.holds Try.pinned (OpenSpec.ofChange wireOneSpec)

/-- ITS FALSE NEIGHBOUR: 'it returns false'. Refute it at one input. -/
def wireOneWrong : ChangeSpec := { name := "wireOne", fn := fun _ => fun
  | [d1, d2, d3] => { results := [.lit (.bool false)], args := [d1, d2, d3] }
  | _ => none }
def WireOneWrongFalsely : Prop := wireOneRow.holds Try.pinned (OpenSpec.ofChange wireOneWrong)

/- THE SECOND FORM. 'bulk': how many values and letters a reading holds, each counted each time it is reached (what is shared counts as often as it is met; a slice's spare places count too). A statement '..UptoSaid' is the law's where the arguments, and the package variables that the reading takes, are together of bulk at most 1048576: NARROWER than '..Said'. Prove '..Said' where nothing that the law and all that it calls make is longer than what came in: it says more and counts as full. Else prove '..UptoSaid'. A law counts once. -/
mutual
def uptoBulk {H : Type} : DataW H → Nat
  | .lit (.string bytes) => bytes.length + 1
  | .lit _ => 1
  | .nil => 1
  | .ptr d => uptoBulk d + 1
  | .slice elems spare => uptoBulkAll elems + uptoBulkAll spare + 1
  | .agg parts => uptoBulkAll parts + 1
  | .iface _ d => uptoBulk d + 1
  | .map entries => uptoBulkEntries entries + 1
  | .held _ => 1
def uptoBulkAll {H : Type} : List (DataW H) → Nat
  | [] => 0
  | d :: r => uptoBulk d + uptoBulkAll r
def uptoBulkEntries {H : Type} : List (Lit × DataW H) → Nat
  | [] => 0
  | x :: r => uptoBulkEntry x + uptoBulkEntries r
def uptoBulkEntry {H : Type} : Lit × DataW H → Nat
  | (.string bytes, d) => bytes.length + uptoBulk d + 1
  | (_, d) => uptoBulk d + 1
 end
def uptoSmall : (H : Type) → List (DataW H) → Bool := fun _ ds => decide (uptoBulkAll ds ≤ 1048576)
def OpenSpec.upto (s : _root_.Go.ChangeSpec) : _root_.Go.OpenSpec := { _root_.Go.OpenSpec.ofChange s with cond := some uptoSmall }

/-- 'fuseboxlaw05.EventRight', WHERE WHAT IT READS IS OF BULK AT MOST 1048576: true; the input reads as it did. -/
def eventRightUptoRow : OpenClaim := { program := "ytokdkmlpfkeeaaa", sum := "9bc2c5f6c96feea67884baed4eac94497c7897d745573487a19404e8fec499ce", func := "fusebox/fuseboxlaw05.EventRight", spec := "eventRight", apart := false, narrowed := true }
def EventRightUptoSaid : Prop := eventRightUptoRow.holds Try.pinned (OpenSpec.upto eventRightSpec)

/-- 'fuseboxlaw05.EventFields', WHERE WHAT IT READS IS OF BULK AT MOST 1048576: true; the input reads as it did. -/
def eventFieldsUptoRow : OpenClaim := { program := "ytokdkmlpfkeeaaa", sum := "9bc2c5f6c96feea67884baed4eac94497c7897d745573487a19404e8fec499ce", func := "fusebox/fuseboxlaw05.EventFields", spec := "eventFields", apart := false, narrowed := true }
def EventFieldsUptoSaid : Prop := eventFieldsUptoRow.holds Try.pinned (OpenSpec.upto eventFieldsSpec)

/-- 'fuseboxlaw02.TallyTurns', WHERE WHAT IT READS IS OF BULK AT MOST 1048576: true; the input reads as it did. -/
def tallyTurnsUptoRow : OpenClaim := { program := "ytokdkmlpfkeeaaa", sum := "9bc2c5f6c96feea67884baed4eac94497c7897d745573487a19404e8fec499ce", func := "fusebox/fuseboxlaw02.TallyTurns", spec := "tallyTurns", inPlace := ["math.archTrunc", "math.Float64bits", "math.Float64frombits"], apart := false, narrowed := true }
def TallyTurnsUptoSaid : Prop := tallyTurnsUptoRow.holds Try.pinned (OpenSpec.upto tallyTurnsSpec)

/-- 'fuseboxlaw02.TallyBeat', WHERE WHAT IT READS IS OF BULK AT MOST 1048576: true; the input reads as it did. -/
def tallyBeatUptoRow : OpenClaim := { program := "ytokdkmlpfkeeaaa", sum := "9bc2c5f6c96feea67884baed4eac94497c7897d745573487a19404e8fec499ce", func := "fusebox/fuseboxlaw02.TallyBeat", spec := "tallyBeat", inPlace := ["math.archTrunc", "math.Float64bits", "math.Float64frombits"], apart := false, narrowed := true }
def TallyBeatUptoSaid : Prop := tallyBeatUptoRow.holds Try.pinned (OpenSpec.upto tallyBeatSpec)

/-- 'fuseboxlaw13.HistRight', WHERE WHAT IT READS IS OF BULK AT MOST 1048576: true; the input reads as it did. -/
def histRightUptoRow : OpenClaim := { program := "ytokdkmlpfkeeaaa", sum := "9bc2c5f6c96feea67884baed4eac94497c7897d745573487a19404e8fec499ce", func := "fusebox/fuseboxlaw13.HistRight", spec := "histRight", unfollowed := true, recurses := true, apart := false, narrowed := true }
def HistRightUptoSaid : Prop := histRightUptoRow.holds Try.pinned (OpenSpec.upto histRightSpec)

/-- 'fuseboxlaw13.HistGrows', WHERE WHAT IT READS IS OF BULK AT MOST 1048576: true; the input reads as it did. -/
def histGrowsUptoRow : OpenClaim := { program := "ytokdkmlpfkeeaaa", sum := "9bc2c5f6c96feea67884baed4eac94497c7897d745573487a19404e8fec499ce", func := "fusebox/fuseboxlaw13.HistGrows", spec := "histGrows", unfollowed := true, recurses := true, apart := false, narrowed := true }
def HistGrowsUptoSaid : Prop := histGrowsUptoRow.holds Try.pinned (OpenSpec.upto histGrowsSpec)

/-- 'fuseboxlaw13.HistOrder', WHERE WHAT IT READS IS OF BULK AT MOST 1048576: true; the input reads as it did. -/
def histOrderUptoRow : OpenClaim := { program := "ytokdkmlpfkeeaaa", sum := "9bc2c5f6c96feea67884baed4eac94497c7897d745573487a19404e8fec499ce", func := "fusebox/fuseboxlaw13.HistOrder", spec := "histOrder", unfollowed := true, recurses := true, apart := false, narrowed := true }
def HistOrderUptoSaid : Prop := histOrderUptoRow.holds Try.pinned (OpenSpec.upto histOrderSpec)

/-- 'fuseboxlaw08.FrameRight', WHERE WHAT IT READS IS OF BULK AT MOST 1048576: true; the input reads as it did. -/
def frameRightUptoRow : OpenClaim := { program := "ytokdkmlpfkeeaaa", sum := "9bc2c5f6c96feea67884baed4eac94497c7897d745573487a19404e8fec499ce", func := "fusebox/fuseboxlaw08.FrameRight", spec := "frameRight", apart := false, narrowed := true }
def FrameRightUptoSaid : Prop := frameRightUptoRow.holds Try.pinned (OpenSpec.upto frameRightSpec)

/-- 'fuseboxlaw08.FrameBack', WHERE WHAT IT READS IS OF BULK AT MOST 1048576: true; the input reads as it did. -/
def frameBackUptoRow : OpenClaim := { program := "ytokdkmlpfkeeaaa", sum := "9bc2c5f6c96feea67884baed4eac94497c7897d745573487a19404e8fec499ce", func := "fusebox/fuseboxlaw08.FrameBack", spec := "frameBack", apart := false, narrowed := true }
def FrameBackUptoSaid : Prop := frameBackUptoRow.holds Try.pinned (OpenSpec.upto frameBackSpec)

/-- 'fuseboxlaw03.WireBack', WHERE WHAT IT READS IS OF BULK AT MOST 1048576: true; the input reads as it did. -/
def wireBackUptoRow : OpenClaim := { program := "ytokdkmlpfkeeaaa", sum := "9bc2c5f6c96feea67884baed4eac94497c7897d745573487a19404e8fec499ce", func := "fusebox/fuseboxlaw03.WireBack", spec := "wireBack", unfollowed := true, recurses := true, apart := false, narrowed := true }
def WireBackUptoSaid : Prop := wireBackUptoRow.holds Try.pinned (OpenSpec.upto wireBackSpec)

/-- 'fuseboxlaw03.WireOne', WHERE WHAT IT READS IS OF BULK AT MOST 1048576: true; the input reads as it did. -/
def wireOneUptoRow : OpenClaim := { program := "ytokdkmlpfkeeaaa", sum := "9bc2c5f6c96feea67884baed4eac94497c7897d745573487a19404e8fec499ce", func := "fusebox/fuseboxlaw03.WireOne", spec := "wireOne", unfollowed := true, recurses := true, apart := false, narrowed := true }
def WireOneUptoSaid : Prop := wireOneUptoRow.holds Try.pinned (OpenSpec.upto wireOneSpec)

end Rows
end Go.Proofs.Ytokdkmlpfkeeaaa
