/- The row of WireOne: for every input the law answers true, and all reads as it did. No further condition. -/
import Derived.Test.YtokdkmlpfkeeaaaWireX
import Derived.Test.YtokdkmlpfkeeaaaRows
import Derived.JoinedOf
set_option maxRecDepth 100000
set_option linter.unusedVariables false
namespace Go.Proofs.Ytokdkmlpfkeeaaa.wireOne
open Go.Fx
theorem own : ownKnob Try.prog.godebug = none := by kernel_rfl
theorem laidOut : laidOutB Try.prog = true := by kernel_rfl
theorem lifted (os : Os) (started : os.Started) (H : Type) (enc : TypeId × Value → H) :
    ReturnsInHanded {} Try.checked os 13 .any (Rows.wireOneSpec.pre6 enc Try.prog Try.f13 Rows.wireOneRow.domain false) (Rows.wireOneSpec.post enc Try.prog Try.f13 false true false false) :=
  Go.Fx.row (C := Try.checked) (l := [.sl (.int .u8), .int .u16, .int .u8]) (tb := 4) own started (by kernel_rfl) Try.func13
    (ChangeSpec.witness6 (enc := enc) (C := Try.checked) false ⟨#[], #[.slice none 0 0, .int .u16 0, .int .u8 0], []⟩ 12 (by kernel_rfl) (by kernel_rfl) (by kernel_rfl) (by kernel_rfl))
    laidOut hP (by kernel_rfl) rfl (fun ds h => match ds, h with | [d0, d1, d2], _ => rfl) rfl Try.underlying4
    fun x w => Wire.rowOne x.1.1 x.1.2 x.2.1 x.2.2.1 (fun i => wf_u8 (w.1.2 i)) (wf_u16 w.2.1) (wf_u8 w.2.2.1)
theorem over : Rows.wireOneRow.holds Try.pinned (OpenSpec.ofChange Rows.wireOneSpec) :=
  OpenClaim.holds_of_wide 13 Try.f13 rfl rfl rfl rfl rfl rfl rfl ⟨rfl, rfl, rfl, rfl, rfl⟩ rfl rfl rfl rfl rfl (by kernel_rfl) Try.func13 (by kernel_rfl)
    (of_decide_eq_true (by kernel_rfl)) (by unfold Func.isWrapper; first | (rw [if_pos (by decide +kernel)]; kernel_rfl) | (rw [if_neg (by decide +kernel)]; exact ⟨rfl, rfl⟩))
    (fun os started H enc _ => lifted os started H enc)
theorem proved : Rows.WireOneSaid := over
#print axioms proved
end Go.Proofs.Ytokdkmlpfkeeaaa.wireOne
namespace Go.Proofs.Ytokdkmlpfkeeaaa
/-- The row, under a short name, for the claim. -/
theorem WireOne_holds : Rows.WireOneSaid := wireOne.proved
end Go.Proofs.Ytokdkmlpfkeeaaa
