/- The row of FrameRight: for every input the law answers true, and all reads as it did. No further condition. -/
import Derived.Test.YtokdkmlpfkeeaaaFrameX
import Derived.Test.YtokdkmlpfkeeaaaRows
import Derived.JoinedOf
set_option maxRecDepth 100000
set_option linter.unusedVariables false
namespace Go.Proofs.Ytokdkmlpfkeeaaa.frameRight
open Go.Fx
theorem own : ownKnob Try.prog.godebug = none := by kernel_rfl
theorem laidOut : laidOutB Try.prog = true := by kernel_rfl
theorem lifted (os : Os) (started : os.Started) (H : Type) (enc : TypeId × Value → H) :
    ReturnsInHanded {} Try.checked os 10 .any (Rows.frameRightSpec.pre6 enc Try.prog Try.f10 Rows.frameRightRow.domain false) (Rows.frameRightSpec.post enc Try.prog Try.f10 false true false false) :=
  Go.Fx.row (C := Try.checked) (l := [.int .i64, .sl (.int .u8), .sl (.int .u8), .int .i64]) (tb := 4) own started (by kernel_rfl) Try.func10
    (ChangeSpec.witness6 (enc := enc) (C := Try.checked) false ⟨#[], #[.int .i64 0, .slice none 0 0, .slice none 0 0, .int .i64 0], []⟩ 12 (by kernel_rfl) (by kernel_rfl) (by kernel_rfl) (by kernel_rfl))
    laidOut hP (by kernel_rfl) rfl (fun ds h => match ds, h with | [d0, d1, d2, d3], _ => rfl) rfl Try.underlying4
    fun x w => Crc.row10 x.1 x.2.1.1 x.2.1.2 x.2.2.1.1 x.2.2.1.2 x.2.2.2.1 (fun i => wf_u8 (w.2.1.2 i)) (fun i => wf_u8 (w.2.2.1.2 i))
theorem over : Rows.frameRightRow.holds Try.pinned (OpenSpec.ofChange Rows.frameRightSpec) :=
  OpenClaim.holds_of_wide 10 Try.f10 rfl rfl rfl rfl rfl rfl rfl ⟨rfl, rfl, rfl, rfl, rfl⟩ rfl rfl rfl rfl rfl (by kernel_rfl) Try.func10 (by kernel_rfl)
    (of_decide_eq_true (by kernel_rfl)) (by unfold Func.isWrapper; first | (rw [if_pos (by decide +kernel)]; kernel_rfl) | (rw [if_neg (by decide +kernel)]; exact ⟨rfl, rfl⟩))
    (fun os started H enc _ => lifted os started H enc)
theorem proved : Rows.FrameRightSaid := over
#print axioms proved
end Go.Proofs.Ytokdkmlpfkeeaaa.frameRight
namespace Go.Proofs.Ytokdkmlpfkeeaaa
/-- The row, under a short name, for the claim. -/
theorem FrameRight_holds : Rows.FrameRightSaid := frameRight.proved
end Go.Proofs.Ytokdkmlpfkeeaaa
