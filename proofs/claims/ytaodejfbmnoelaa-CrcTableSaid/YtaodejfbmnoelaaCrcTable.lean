/- The row of CrcTable: for every input the law answers true, and all reads as it did. No further condition. -/
import Derived.Test.YtaodejfbmnoelaaCrcU
import Derived.Test.YtaodejfbmnoelaaRows
import Derived.JoinedOf
set_option maxRecDepth 100000
set_option linter.unusedVariables false
namespace Go.Proofs.Ytaodejfbmnoelaa.crcTable
open Go.Fx
theorem own : ownKnob Try.prog.godebug = none := by kernel_rfl
theorem laidOut : laidOutB Try.prog = true := by kernel_rfl
theorem lifted (os : Os) (started : os.Started) (H : Type) (enc : TypeId × Value → H) :
    ReturnsInHanded {} Try.checked os 12 .any (Rows.crcTableSpec.pre6 enc Try.prog Try.f12 Rows.crcTableRow.domain false) (Rows.crcTableSpec.post enc Try.prog Try.f12 false true false false) :=
  Go.Fx.row (C := Try.checked) (l := [.int .u8]) (tb := 4) own started (by kernel_rfl) Try.func12
    (ChangeSpec.witness6 (enc := enc) (C := Try.checked) false ⟨#[], #[.int .u8 0], []⟩ 12 (by kernel_rfl) (by kernel_rfl) (by kernel_rfl) (by kernel_rfl))
    laidOut hP (by kernel_rfl) rfl (fun ds h => match ds, h with | [d0], _ => rfl) rfl Try.underlying4
    fun x w => Crc.law12 x.1 (wf_u8 w.1)
theorem over : Rows.crcTableRow.holds Try.pinned (OpenSpec.ofChange Rows.crcTableSpec) :=
  OpenClaim.holds_of_wide 12 Try.f12 rfl rfl rfl rfl rfl rfl rfl ⟨rfl, rfl, rfl, rfl, rfl⟩ rfl rfl rfl rfl rfl (by kernel_rfl) Try.func12 (by kernel_rfl)
    (of_decide_eq_true (by kernel_rfl)) (by unfold Func.isWrapper; first | (rw [if_pos (by decide +kernel)]; kernel_rfl) | (rw [if_neg (by decide +kernel)]; exact ⟨rfl, rfl⟩))
    (fun os started H enc _ => lifted os started H enc)
theorem proved : Rows.CrcTableSaid := over
#print axioms proved
end Go.Proofs.Ytaodejfbmnoelaa.crcTable
namespace Go.Proofs.Ytaodejfbmnoelaa
/-- The row, under a short name, for the claim. -/
theorem CrcTable_holds : Rows.CrcTableSaid := crcTable.proved
end Go.Proofs.Ytaodejfbmnoelaa
