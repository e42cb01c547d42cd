/- The row of CrcRight: for every input the law answers true, and all reads as it did. No further condition. -/
import Derived.Test.YtaodejfbmnoelaaCrcR
import Derived.Test.YtaodejfbmnoelaaRows
import Derived.JoinedOf
set_option maxRecDepth 100000
set_option linter.unusedVariables false
namespace Go.Proofs.Ytaodejfbmnoelaa.crcRight
open Go.Fx
theorem own : ownKnob Try.prog.godebug = none := by kernel_rfl
theorem laidOut : laidOutB Try.prog = true := by kernel_rfl
theorem lifted (os : Os) (started : os.Started) (H : Type) (enc : TypeId × Value → H) :
    ReturnsInHanded {} Try.checked os 11 .any (Rows.crcRightSpec.pre6 enc Try.prog Try.f11 Rows.crcRightRow.domain false) (Rows.crcRightSpec.post enc Try.prog Try.f11 false true false false) :=
  Go.Fx.row (C := Try.checked) (l := [.arr 256 (.int .u32), .int .u32, .sl (.int .u8)]) (tb := 4) own started (by kernel_rfl) Try.func11
    (ChangeSpec.witness6 (enc := enc) (C := Try.checked) false ⟨#[], #[.agg (Array.replicate 256 (.int .u32 0)), .int .u32 0, .slice none 0 0], []⟩ 12 (by kernel_rfl) (by kernel_rfl) (by kernel_rfl) (by kernel_rfl))
    laidOut hP (by kernel_rfl) rfl (fun ds h => match ds, h with | [d0, d1, d2], _ => rfl) rfl Try.underlying4
    fun x w => Crc.row11 x.1 x.2.1 x.2.2.1.1 x.2.2.1.2 (fun i => wf_u32 (w.1 i)) (wf_u32 w.2.1) (fun i => wf_u8 (w.2.2.1.2 i))
theorem over : Rows.crcRightRow.holds Try.pinned (OpenSpec.ofChange Rows.crcRightSpec) :=
  OpenClaim.holds_of_wide 11 Try.f11 rfl rfl rfl rfl rfl rfl rfl ⟨rfl, rfl, rfl, rfl, rfl⟩ rfl rfl rfl rfl rfl (by kernel_rfl) Try.func11 (by kernel_rfl)
    (of_decide_eq_true (by kernel_rfl)) (by unfold Func.isWrapper; first | (rw [if_pos (by decide +kernel)]; kernel_rfl) | (rw [if_neg (by decide +kernel)]; exact ⟨rfl, rfl⟩))
    (fun os started H enc _ => lifted os started H enc)
theorem proved : Rows.CrcRightSaid := over
#print axioms proved
end Go.Proofs.Ytaodejfbmnoelaa.crcRight
namespace Go.Proofs.Ytaodejfbmnoelaa
/-- The row, under a short name, for the claim. -/
theorem CrcRight_holds : Rows.CrcRightSaid := crcRight.proved
end Go.Proofs.Ytaodejfbmnoelaa
