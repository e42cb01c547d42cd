/- The row of FrameBack: for every input the law answers true, and all reads as it did. No further condition. -/
import Derived.Test.YtokdkmlpfkeeaaaFrameX
import Derived.Test.YtokdkmlpfkeeaaaRows
import Derived.JoinedOf
set_option maxRecDepth 100000
set_option linter.unusedVariables false
namespace Go.Proofs.Ytokdkmlpfkeeaaa.frameBack
open Go.Fx
theorem own : ownKnob Try.prog.godebug = none := by kernel_rfl
theorem laidOut : laidOutB Try.prog = true := by kernel_rfl
theorem lifted (os : Os) (started : os.Started) (H : Type) (enc : TypeId × Value → H) :
    ReturnsInHanded {} Try.checked os 11 .any (Rows.frameBackSpec.pre6 enc Try.prog Try.f11 Rows.frameBackRow.domain false) (Rows.frameBackSpec.post enc Try.prog Try.f11 false true false false) :=
  Go.Fx.row (C := Try.checked) (l := [.int .i64, .sl (.int .u8), .sl (.int .u8), .sl (.int .u8), .sl (.int .u8), .int .i64]) (tb := 4) own started (by kernel_rfl) Try.func11
    (ChangeSpec.witness6 (enc := enc) (C := Try.checked) false ⟨#[], #[.int .i64 0, .slice none 0 0, .slice none 0 0, .slice none 0 0, .slice none 0 0, .int .i64 0], []⟩ 12 (by kernel_rfl) (by kernel_rfl) (by kernel_rfl) (by kernel_rfl))
    laidOut hP (by kernel_rfl) rfl (fun ds h => match ds, h with | [d0, d1, d2, d3, d4, d5], _ => rfl) rfl Try.underlying4
    fun x w => Crc.row11 x.1 x.2.1.1 x.2.1.2 x.2.2.1.1 x.2.2.1.2 x.2.2.2.1.1 x.2.2.2.1.2 x.2.2.2.2.1.1 x.2.2.2.2.1.2 x.2.2.2.2.2.1 (fun i => wf_u8 (w.2.1.2 i)) (fun i => wf_u8 (w.2.2.1.2 i)) (fun i => wf_u8 (w.2.2.2.1.2 i)) (fun i => wf_u8 (w.2.2.2.2.1.2 i)) (wf_i64 w.2.2.2.2.2.1)
theorem over : Rows.frameBackRow.holds Try.pinned (OpenSpec.ofChange Rows.frameBackSpec) :=
  OpenClaim.holds_of_wide 11 Try.f11 rfl rfl rfl rfl rfl rfl rfl ⟨rfl, rfl, rfl, rfl, rfl⟩ rfl rfl rfl rfl rfl (by kernel_rfl) Try.func11 (by kernel_rfl)
    (of_decide_eq_true (by kernel_rfl)) (by unfold Func.isWrapper; first | (rw [if_pos (by decide +kernel)]; kernel_rfl) | (rw [if_neg (by decide +kernel)]; exact ⟨rfl, rfl⟩))
    (fun os started H enc _ => lifted os started H enc)
theorem proved : Rows.FrameBackSaid := over
#print axioms proved
end Go.Proofs.Ytokdkmlpfkeeaaa.frameBack
namespace Go.Proofs.Ytokdkmlpfkeeaaa
/-- The row, under a short name, for the claim. -/
theorem FrameBack_holds : Rows.FrameBackSaid := frameBack.proved
end Go.Proofs.Ytokdkmlpfkeeaaa
