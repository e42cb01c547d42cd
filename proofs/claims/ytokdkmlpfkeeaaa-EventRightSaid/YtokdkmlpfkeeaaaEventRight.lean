/- The row of EventRight: for every input the law answers true, and all reads as it did. No further condition. -/
import Derived.Test.YtokdkmlpfkeeaaaEventL3
import Derived.Test.YtokdkmlpfkeeaaaRows
import Derived.JoinedOf
set_option maxRecDepth 100000
set_option linter.unusedVariables false
namespace Go.Proofs.Ytokdkmlpfkeeaaa.eventRight
open Go.Fx
theorem own : ownKnob Try.prog.godebug = none := by kernel_rfl
theorem laidOut : laidOutB Try.prog = true := by kernel_rfl
theorem lifted (os : Os) (started : os.Started) (H : Type) (enc : TypeId × Value → H) :
    ReturnsInHanded {} Try.checked os 3 .any (Rows.eventRightSpec.pre6 enc Try.prog Try.f3 Rows.eventRightRow.domain false) (Rows.eventRightSpec.post enc Try.prog Try.f3 false true false false) :=
  Go.Fx.row (C := Try.checked) (l := [.st [.int .i64, .int .i64, .int .i64, .str, .int .i64, .int .i64, .int .i64], .int .i64, .str, .sl (.int .i64)]) (tb := 4) own started (by kernel_rfl) Try.func3
    (ChangeSpec.witness6 (enc := enc) (C := Try.checked) false ⟨#[], #[.agg #[.int .i64 0, .int .i64 0, .int .i64 0, .string ⟨#[]⟩, .int .i64 0, .int .i64 0, .int .i64 0], .int .i64 0, .string ⟨#[]⟩, .slice none 0 0], []⟩ 12 (by kernel_rfl) (by kernel_rfl) (by kernel_rfl) (by kernel_rfl))
    laidOut hP (by kernel_rfl) rfl (fun ds h => match ds, h with | [d0, d1, d2, d3], _ => rfl) rfl Try.underlying4
    fun x w => Event.law3 x.1.1 x.1.2.1 x.1.2.2.1 x.1.2.2.2.1 x.1.2.2.2.2.1 x.1.2.2.2.2.2.1 x.1.2.2.2.2.2.2.1 x.2.1 x.2.2.1 x.2.2.2.1.1 x.2.2.2.1.2
theorem over : Rows.eventRightRow.holds Try.pinned (OpenSpec.ofChange Rows.eventRightSpec) :=
  OpenClaim.holds_of_wide 3 Try.f3 rfl rfl rfl rfl rfl rfl rfl ⟨rfl, rfl, rfl, rfl, rfl⟩ rfl rfl rfl rfl rfl (by kernel_rfl) Try.func3 (by kernel_rfl)
    (of_decide_eq_true (by kernel_rfl)) (by unfold Func.isWrapper; first | (rw [if_pos (by decide +kernel)]; kernel_rfl) | (rw [if_neg (by decide +kernel)]; exact ⟨rfl, rfl⟩))
    (fun os started H enc _ => lifted os started H enc)
theorem proved : Rows.EventRightSaid := over
#print axioms proved
end Go.Proofs.Ytokdkmlpfkeeaaa.eventRight
namespace Go.Proofs.Ytokdkmlpfkeeaaa
/-- The row, under a short name, for the claim. -/
theorem EventRight_holds : Rows.EventRightSaid := eventRight.proved
end Go.Proofs.Ytokdkmlpfkeeaaa
