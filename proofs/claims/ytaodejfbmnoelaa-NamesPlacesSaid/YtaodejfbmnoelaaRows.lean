/-
  No cell of these rows narrows 'for every input' (looked for: loops, veiled, ifaces, maps, wideKeys, modest, calm, conditions, laid).
  DERIVED. THE GIVEN ROWS OF THIS SEAT. 12 by the template 'for every input the law returns true; each argument reads behind the call as it read before'; 0 by the template 'total and deterministic' (their statements: YtaodejfbmnoelaaTotals.lean).
  GIVEN WITH THE SEED: the statements are not yours to turn. If you find one false, say at which input.
  Laid BY PROGRAM, IN A SANDBOX (cutbox-rows.mjs): the forced cells as the released guide's own fill.sh prints them over the translation 54ae19b7c7c711a9… (all of the seat's roots in one cut). By AI agents, Wed Nov 11 2026. No macro, syntax, notation, axiom, sorry.
-/
import Derived.Test.YtaodejfbmnoelaaChecked
import GoSem.Claim
import GoSem.ClaimJoined
import GoSem.ClaimMapViews
import Derived.JoinedTies
import Derived.KernelRfl
namespace Go.Proofs.Ytaodejfbmnoelaa
/- THE CELL 'sum', in the pinned program and in every row, IS THE sha256 OF THE DUMP (.gsa) THAT YtaodejfbmnoelaaProg.lean LOADS. Nothing in Lean hashes anything: it is a label: what it is worth is what the hold of that sum in a sandbox is worth. -/
noncomputable def Try.pinned : Pinned := { name := "ytaodejfbmnoelaa", sum := "54ae19b7c7c711a9489cfd8ca19555dca907aae827ff7311241db968280e677b", checked := Try.checked }
namespace Rows
def none {H : Type} : Left H := { results := [], args := [] }

/-- 'fuseboxlaw01.CountRight': WHATEVER THE INPUT: true; the input reads as it did. -/
def countRightSpec : ChangeSpec := { name := "countRight", fn := fun _ => fun
  | [d1, d2, d3] => { results := [.lit (.bool true)], args := [d1, d2, d3] }
  | _ => none }
def countRightRow : OpenClaim := { program := "ytaodejfbmnoelaa", sum := "54ae19b7c7c711a9489cfd8ca19555dca907aae827ff7311241db968280e677b", func := "fusebox/fuseboxlaw01.CountRight", spec := "countRight", apart := false }
def CountRightSaid : Prop := countRightRow.holds Try.pinned (OpenSpec.ofChange countRightSpec)

/-- ITS FALSE NEIGHBOUR: 'it returns false'. Refute it at one input. -/
def countRightWrong : ChangeSpec := { name := "countRight", fn := fun _ => fun
  | [d1, d2, d3] => { results := [.lit (.bool false)], args := [d1, d2, d3] }
  | _ => none }
def CountRightWrongFalsely : Prop := countRightRow.holds Try.pinned (OpenSpec.ofChange countRightWrong)

/-- 'fuseboxlaw01.CountBack': WHATEVER THE INPUT: true; the input reads as it did. -/
def countBackSpec : ChangeSpec := { name := "countBack", fn := fun _ => fun
  | [d1, d2] => { results := [.lit (.bool true)], args := [d1, d2] }
  | _ => none }
def countBackRow : OpenClaim := { program := "ytaodejfbmnoelaa", sum := "54ae19b7c7c711a9489cfd8ca19555dca907aae827ff7311241db968280e677b", func := "fusebox/fuseboxlaw01.CountBack", spec := "countBack", apart := false }
def CountBackSaid : Prop := countBackRow.holds Try.pinned (OpenSpec.ofChange countBackSpec)

/-- ITS FALSE NEIGHBOUR: 'it returns false'. Refute it at one input. -/
def countBackWrong : ChangeSpec := { name := "countBack", fn := fun _ => fun
  | [d1, d2] => { results := [.lit (.bool false)], args := [d1, d2] }
  | _ => none }
def CountBackWrongFalsely : Prop := countBackRow.holds Try.pinned (OpenSpec.ofChange countBackWrong)

/-- 'fuseboxlaw01.CountTotal': WHATEVER THE INPUT: true; the input reads as it did. -/
def countTotalSpec : ChangeSpec := { name := "countTotal", fn := fun _ => fun
  | [d1, d2] => { results := [.lit (.bool true)], args := [d1, d2] }
  | _ => none }
def countTotalRow : OpenClaim := { program := "ytaodejfbmnoelaa", sum := "54ae19b7c7c711a9489cfd8ca19555dca907aae827ff7311241db968280e677b", func := "fusebox/fuseboxlaw01.CountTotal", spec := "countTotal", apart := false }
def CountTotalSaid : Prop := countTotalRow.holds Try.pinned (OpenSpec.ofChange countTotalSpec)

/-- ITS FALSE NEIGHBOUR: 'it returns false'. Refute it at one input. -/
def countTotalWrong : ChangeSpec := { name := "countTotal", fn := fun _ => fun
  | [d1, d2] => { results := [.lit (.bool false)], args := [d1, d2] }
  | _ => none }
def CountTotalWrongFalsely : Prop := countTotalRow.holds Try.pinned (OpenSpec.ofChange countTotalWrong)

/-- 'fuseboxlaw12.BucketRight': WHATEVER THE INPUT: true; the input reads as it did. -/
def bucketRightSpec : ChangeSpec := { name := "bucketRight", fn := fun _ => fun
  | [d1, d2, d3, d4] => { results := [.lit (.bool true)], args := [d1, d2, d3, d4] }
  | _ => none }
def bucketRightRow : OpenClaim := { program := "ytaodejfbmnoelaa", sum := "54ae19b7c7c711a9489cfd8ca19555dca907aae827ff7311241db968280e677b", func := "fusebox/fuseboxlaw12.BucketRight", spec := "bucketRight", apart := false }
def BucketRightSaid : Prop := bucketRightRow.holds Try.pinned (OpenSpec.ofChange bucketRightSpec)

/-- ITS FALSE NEIGHBOUR: 'it returns false'. Refute it at one input. -/
def bucketRightWrong : ChangeSpec := { name := "bucketRight", fn := fun _ => fun
  | [d1, d2, d3, d4] => { results := [.lit (.bool false)], args := [d1, d2, d3, d4] }
  | _ => none }
def BucketRightWrongFalsely : Prop := bucketRightRow.holds Try.pinned (OpenSpec.ofChange bucketRightWrong)

/-- 'fuseboxlaw12.BucketHolds': WHATEVER THE INPUT: true; the input reads as it did. -/
def bucketHoldsSpec : ChangeSpec := { name := "bucketHolds", fn := fun _ => fun
  | [d1, d2] => { results := [.lit (.bool true)], args := [d1, d2] }
  | _ => none }
def bucketHoldsRow : OpenClaim := { program := "ytaodejfbmnoelaa", sum := "54ae19b7c7c711a9489cfd8ca19555dca907aae827ff7311241db968280e677b", func := "fusebox/fuseboxlaw12.BucketHolds", spec := "bucketHolds", apart := false }
def BucketHoldsSaid : Prop := bucketHoldsRow.holds Try.pinned (OpenSpec.ofChange bucketHoldsSpec)

/-- ITS FALSE NEIGHBOUR: 'it returns false'. Refute it at one input. -/
def bucketHoldsWrong : ChangeSpec := { name := "bucketHolds", fn := fun _ => fun
  | [d1, d2] => { results := [.lit (.bool false)], args := [d1, d2] }
  | _ => none }
def BucketHoldsWrongFalsely : Prop := bucketHoldsRow.holds Try.pinned (OpenSpec.ofChange bucketHoldsWrong)

/-- 'fuseboxlaw12.BucketJoins': WHATEVER THE INPUT: true; the input reads as it did. -/
def bucketJoinsSpec : ChangeSpec := { name := "bucketJoins", fn := fun _ => fun
  | [d1, d2, d3] => { results := [.lit (.bool true)], args := [d1, d2, d3] }
  | _ => none }
def bucketJoinsRow : OpenClaim := { program := "ytaodejfbmnoelaa", sum := "54ae19b7c7c711a9489cfd8ca19555dca907aae827ff7311241db968280e677b", func := "fusebox/fuseboxlaw12.BucketJoins", spec := "bucketJoins", apart := false }
def BucketJoinsSaid : Prop := bucketJoinsRow.holds Try.pinned (OpenSpec.ofChange bucketJoinsSpec)

/-- ITS FALSE NEIGHBOUR: 'it returns false'. Refute it at one input. -/
def bucketJoinsWrong : ChangeSpec := { name := "bucketJoins", fn := fun _ => fun
  | [d1, d2, d3] => { results := [.lit (.bool false)], args := [d1, d2, d3] }
  | _ => none }
def BucketJoinsWrongFalsely : Prop := bucketJoinsRow.holds Try.pinned (OpenSpec.ofChange bucketJoinsWrong)

/-- 'fuseboxlaw06.NamesRight': WHATEVER THE INPUT: true; the input reads as it did. -/
def namesRightSpec : ChangeSpec := { name := "namesRight", fn := fun _ => fun
  | [d1, d2, d3] => { results := [.lit (.bool true)], args := [d1, d2, d3] }
  | _ => none }
def namesRightRow : OpenClaim := { program := "ytaodejfbmnoelaa", sum := "54ae19b7c7c711a9489cfd8ca19555dca907aae827ff7311241db968280e677b", func := "fusebox/fuseboxlaw06.NamesRight", spec := "namesRight", apart := false }
def NamesRightSaid : Prop := namesRightRow.holds Try.pinned (OpenSpec.ofChange namesRightSpec)

/-- ITS FALSE NEIGHBOUR: 'it returns false'. Refute it at one input. -/
def namesRightWrong : ChangeSpec := { name := "namesRight", fn := fun _ => fun
  | [d1, d2, d3] => { results := [.lit (.bool false)], args := [d1, d2, d3] }
  | _ => none }
def NamesRightWrongFalsely : Prop := namesRightRow.holds Try.pinned (OpenSpec.ofChange namesRightWrong)

/-- 'fuseboxlaw06.NamesPlaces': WHATEVER THE INPUT: true; the input reads as it did. -/
def namesPlacesSpec : ChangeSpec := { name := "namesPlaces", fn := fun _ => fun
  | [d] => { results := [.lit (.bool true)], args := [d] }
  | _ => none }
def namesPlacesRow : OpenClaim := { program := "ytaodejfbmnoelaa", sum := "54ae19b7c7c711a9489cfd8ca19555dca907aae827ff7311241db968280e677b", func := "fusebox/fuseboxlaw06.NamesPlaces", spec := "namesPlaces", apart := false }
def NamesPlacesSaid : Prop := namesPlacesRow.holds Try.pinned (OpenSpec.ofChange namesPlacesSpec)

/-- ITS FALSE NEIGHBOUR: 'it returns false'. Refute it at one input. -/
def namesPlacesWrong : ChangeSpec := { name := "namesPlaces", fn := fun _ => fun
  | [d] => { results := [.lit (.bool false)], args := [d] }
  | _ => none }
def NamesPlacesWrongFalsely : Prop := namesPlacesRow.holds Try.pinned (OpenSpec.ofChange namesPlacesWrong)

/-- 'fuseboxlaw04.CrcRight': WHATEVER THE INPUT: true; the input reads as it did. -/
def crcRightSpec : ChangeSpec := { name := "crcRight", fn := fun _ => fun
  | [d1, d2, d3] => { results := [.lit (.bool true)], args := [d1, d2, d3] }
  | _ => none }
def crcRightRow : OpenClaim := { program := "ytaodejfbmnoelaa", sum := "54ae19b7c7c711a9489cfd8ca19555dca907aae827ff7311241db968280e677b", func := "fusebox/fuseboxlaw04.CrcRight", spec := "crcRight", apart := false }
def CrcRightSaid : Prop := crcRightRow.holds Try.pinned (OpenSpec.ofChange crcRightSpec)

/-- ITS FALSE NEIGHBOUR: 'it returns false'. Refute it at one input. -/
def crcRightWrong : ChangeSpec := { name := "crcRight", fn := fun _ => fun
  | [d1, d2, d3] => { results := [.lit (.bool false)], args := [d1, d2, d3] }
  | _ => none }
def CrcRightWrongFalsely : Prop := crcRightRow.holds Try.pinned (OpenSpec.ofChange crcRightWrong)

/-- 'fuseboxlaw04.CrcTable': WHATEVER THE INPUT: true; the input reads as it did. -/
def crcTableSpec : ChangeSpec := { name := "crcTable", fn := fun _ => fun
  | [d] => { results := [.lit (.bool true)], args := [d] }
  | _ => none }
def crcTableRow : OpenClaim := { program := "ytaodejfbmnoelaa", sum := "54ae19b7c7c711a9489cfd8ca19555dca907aae827ff7311241db968280e677b", func := "fusebox/fuseboxlaw04.CrcTable", spec := "crcTable", apart := false }
def CrcTableSaid : Prop := crcTableRow.holds Try.pinned (OpenSpec.ofChange crcTableSpec)

/-- ITS FALSE NEIGHBOUR: 'it returns false'. Refute it at one input. -/
def crcTableWrong : ChangeSpec := { name := "crcTable", fn := fun _ => fun
  | [d] => { results := [.lit (.bool false)], args := [d] }
  | _ => none }
def CrcTableWrongFalsely : Prop := crcTableRow.holds Try.pinned (OpenSpec.ofChange crcTableWrong)

/-- 'fuseboxlaw04.CrcBack': WHATEVER THE INPUT: true; the input reads as it did. -/
def crcBackSpec : ChangeSpec := { name := "crcBack", fn := fun _ => fun
  | [d1, d2, d3, d4, d5] => { results := [.lit (.bool true)], args := [d1, d2, d3, d4, d5] }
  | _ => none }
def crcBackRow : OpenClaim := { program := "ytaodejfbmnoelaa", sum := "54ae19b7c7c711a9489cfd8ca19555dca907aae827ff7311241db968280e677b", func := "fusebox/fuseboxlaw04.CrcBack", spec := "crcBack", apart := false }
def CrcBackSaid : Prop := crcBackRow.holds Try.pinned (OpenSpec.ofChange crcBackSpec)

/-- ITS FALSE NEIGHBOUR: 'it returns false'. Refute it at one input. -/
def crcBackWrong : ChangeSpec := { name := "crcBack", fn := fun _ => fun
  | [d1, d2, d3, d4, d5] => { results := [.lit (.bool false)], args := [d1, d2, d3, d4, d5] }
  | _ => none }
def CrcBackWrongFalsely : Prop := crcBackRow.holds Try.pinned (OpenSpec.ofChange crcBackWrong)

/-- 'fuseboxlaw04.CrcBurst': WHATEVER THE INPUT: true; the input reads as it did. -/
def crcBurstSpec : ChangeSpec := { name := "crcBurst", fn := fun _ => fun
  | [d1, d2, d3] => { results := [.lit (.bool true)], args := [d1, d2, d3] }
  | _ => none }
def crcBurstRow : OpenClaim := { program := "ytaodejfbmnoelaa", sum := "54ae19b7c7c711a9489cfd8ca19555dca907aae827ff7311241db968280e677b", func := "fusebox/fuseboxlaw04.CrcBurst", spec := "crcBurst", apart := false }
def CrcBurstSaid : Prop := crcBurstRow.holds Try.pinned (OpenSpec.ofChange crcBurstSpec)

/-- ITS FALSE NEIGHBOUR: 'it returns false'. Refute it at one input. -/
def crcBurstWrong : ChangeSpec := { name := "crcBurst", fn := fun _ => fun
  | [d1, d2, d3] => { results := [.lit (.bool false)], args := [d1, d2, d3] }
  | _ => none }
def CrcBurstWrongFalsely : Prop := crcBurstRow.holds Try.pinned (OpenSpec.ofChange crcBurstWrong)

/- THE SECOND FORM. 'bulk': how many values and letters a reading holds, each counted each time it is reached (what is shared counts as often as it is met; a slice's spare places count too). A statement '..UptoSaid' is the law's where the arguments, and the package variables that the reading takes, are together of bulk at most 1048576: NARROWER than '..Said'. Prove '..Said' where nothing that the law and all that it calls make is longer than what came in: it says more and counts as full. Else prove '..UptoSaid'. A law counts once. -/
mutual
def uptoBulk {H : Type} : DataW H → Nat
  | .lit (.string bytes) => bytes.length + 1
  | .lit _ => 1
  | .nil => 1
  | .ptr d => uptoBulk d + 1
  | .slice elems spare => uptoBulkAll elems + uptoBulkAll spare + 1
  | .agg parts => uptoBulkAll parts + 1
  | .iface _ d => uptoBulk d + 1
  | .map entries => uptoBulkEntries entries + 1
  | .held _ => 1
def uptoBulkAll {H : Type} : List (DataW H) → Nat
  | [] => 0
  | d :: r => uptoBulk d + uptoBulkAll r
def uptoBulkEntries {H : Type} : List (Lit × DataW H) → Nat
  | [] => 0
  | x :: r => uptoBulkEntry x + uptoBulkEntries r
def uptoBulkEntry {H : Type} : Lit × DataW H → Nat
  | (.string bytes, d) => bytes.length + uptoBulk d + 1
  | (_, d) => uptoBulk d + 1
 end
def uptoSmall : (H : Type) → List (DataW H) → Bool := fun _ ds => decide (uptoBulkAll ds ≤ 1048576)
def OpenSpec.upto (s : _root_.Go.ChangeSpec) : _root_.Go.OpenSpec := { _root_.Go.OpenSpec.ofChange s with cond := some uptoSmall }

/-- 'fuseboxlaw01.CountRight', WHERE WHAT IT READS IS OF BULK AT MOST 1048576: true; the input reads as it did. -/
def countRightUptoRow : OpenClaim := { program := "ytaodejfbmnoelaa", sum := "54ae19b7c7c711a9489cfd8ca19555dca907aae827ff7311241db968280e677b", func := "fusebox/fuseboxlaw01.CountRight", spec := "countRight", apart := false, narrowed := true }
def CountRightUptoSaid : Prop := countRightUptoRow.holds Try.pinned (OpenSpec.upto countRightSpec)

/-- 'fuseboxlaw01.CountBack', WHERE WHAT IT READS IS OF BULK AT MOST 1048576: true; the input reads as it did. -/
def countBackUptoRow : OpenClaim := { program := "ytaodejfbmnoelaa", sum := "54ae19b7c7c711a9489cfd8ca19555dca907aae827ff7311241db968280e677b", func := "fusebox/fuseboxlaw01.CountBack", spec := "countBack", apart := false, narrowed := true }
def CountBackUptoSaid : Prop := countBackUptoRow.holds Try.pinned (OpenSpec.upto countBackSpec)

/-- 'fuseboxlaw01.CountTotal', WHERE WHAT IT READS IS OF BULK AT MOST 1048576: true; the input reads as it did. -/
def countTotalUptoRow : OpenClaim := { program := "ytaodejfbmnoelaa", sum := "54ae19b7c7c711a9489cfd8ca19555dca907aae827ff7311241db968280e677b", func := "fusebox/fuseboxlaw01.CountTotal", spec := "countTotal", apart := false, narrowed := true }
def CountTotalUptoSaid : Prop := countTotalUptoRow.holds Try.pinned (OpenSpec.upto countTotalSpec)

/-- 'fuseboxlaw12.BucketRight', WHERE WHAT IT READS IS OF BULK AT MOST 1048576: true; the input reads as it did. -/
def bucketRightUptoRow : OpenClaim := { program := "ytaodejfbmnoelaa", sum := "54ae19b7c7c711a9489cfd8ca19555dca907aae827ff7311241db968280e677b", func := "fusebox/fuseboxlaw12.BucketRight", spec := "bucketRight", apart := false, narrowed := true }
def BucketRightUptoSaid : Prop := bucketRightUptoRow.holds Try.pinned (OpenSpec.upto bucketRightSpec)

/-- 'fuseboxlaw12.BucketHolds', WHERE WHAT IT READS IS OF BULK AT MOST 1048576: true; the input reads as it did. -/
def bucketHoldsUptoRow : OpenClaim := { program := "ytaodejfbmnoelaa", sum := "54ae19b7c7c711a9489cfd8ca19555dca907aae827ff7311241db968280e677b", func := "fusebox/fuseboxlaw12.BucketHolds", spec := "bucketHolds", apart := false, narrowed := true }
def BucketHoldsUptoSaid : Prop := bucketHoldsUptoRow.holds Try.pinned (OpenSpec.upto bucketHoldsSpec)

/-- 'fuseboxlaw12.BucketJoins', WHERE WHAT IT READS IS OF BULK AT MOST 1048576: true; the input reads as it did. -/
def bucketJoinsUptoRow : OpenClaim := { program := "ytaodejfbmnoelaa", sum := "54ae19b7c7c711a9489cfd8ca19555dca907aae827ff7311241db968280e677b", func := "fusebox/fuseboxlaw12.BucketJoins", spec := "bucketJoins", apart := false, narrowed := true }
def BucketJoinsUptoSaid : Prop := bucketJoinsUptoRow.holds Try.pinned (OpenSpec.upto bucketJoinsSpec)

/-- 'fuseboxlaw06.NamesRight', WHERE WHAT IT READS IS OF BULK AT MOST 1048576: true; the input reads as it did. -/
def namesRightUptoRow : OpenClaim := { program := "ytaodejfbmnoelaa", sum := "54ae19b7c7c711a9489cfd8ca19555dca907aae827ff7311241db968280e677b", func := "fusebox/fuseboxlaw06.NamesRight", spec := "namesRight", apart := false, narrowed := true }
def NamesRightUptoSaid : Prop := namesRightUptoRow.holds Try.pinned (OpenSpec.upto namesRightSpec)

/-- 'fuseboxlaw06.NamesPlaces', WHERE WHAT IT READS IS OF BULK AT MOST 1048576: true; the input reads as it did. -/
def namesPlacesUptoRow : OpenClaim := { program := "ytaodejfbmnoelaa", sum := "54ae19b7c7c711a9489cfd8ca19555dca907aae827ff7311241db968280e677b", func := "fusebox/fuseboxlaw06.NamesPlaces", spec := "namesPlaces", apart := false, narrowed := true }
def NamesPlacesUptoSaid : Prop := namesPlacesUptoRow.holds Try.pinned (OpenSpec.upto namesPlacesSpec)

/-- 'fuseboxlaw04.CrcRight', WHERE WHAT IT READS IS OF BULK AT MOST 1048576: true; the input reads as it did. -/
def crcRightUptoRow : OpenClaim := { program := "ytaodejfbmnoelaa", sum := "54ae19b7c7c711a9489cfd8ca19555dca907aae827ff7311241db968280e677b", func := "fusebox/fuseboxlaw04.CrcRight", spec := "crcRight", apart := false, narrowed := true }
def CrcRightUptoSaid : Prop := crcRightUptoRow.holds Try.pinned (OpenSpec.upto crcRightSpec)

/-- 'fuseboxlaw04.CrcTable', WHERE WHAT IT READS IS OF BULK AT MOST 1048576: true; the input reads as it did. -/
def crcTableUptoRow : OpenClaim := { program := "ytaodejfbmnoelaa", sum := "54ae19b7c7c711a9489cfd8ca19555dca907aae827ff7311241db968280e677b", func := "fusebox/fuseboxlaw04.CrcTable", spec := "crcTable", apart := false, narrowed := true }
def CrcTableUptoSaid : Prop := crcTableUptoRow.holds Try.pinned (OpenSpec.upto crcTableSpec)

/-- 'fuseboxlaw04.CrcBack', WHERE WHAT IT READS IS OF BULK AT MOST 1048576: true; the input reads as it did. -/
def crcBackUptoRow : OpenClaim := { program := "ytaodejfbmnoelaa", sum := "54ae19b7c7c711a9489cfd8ca19555dca907aae827ff7311241db968280e677b", func := "fusebox/fuseboxlaw04.CrcBack", spec := "crcBack", apart := false, narrowed := true }
def CrcBackUptoSaid : Prop := crcBackUptoRow.holds Try.pinned (OpenSpec.upto crcBackSpec)

/-- 'fuseboxlaw04.CrcBurst', WHERE WHAT IT READS IS OF BULK AT MOST 1048576: true; the input reads as it did. -/
def crcBurstUptoRow : OpenClaim := { program := "ytaodejfbmnoelaa", sum := "54ae19b7c7c711a9489cfd8ca19555dca907aae827ff7311241db968280e677b", func := "fusebox/fuseboxlaw04.CrcBurst", spec := "crcBurst", apart := false, narrowed := true }
def CrcBurstUptoSaid : Prop := crcBurstUptoRow.holds Try.pinned (OpenSpec.upto crcBurstSpec)

end Rows
end Go.Proofs.Ytaodejfbmnoelaa
