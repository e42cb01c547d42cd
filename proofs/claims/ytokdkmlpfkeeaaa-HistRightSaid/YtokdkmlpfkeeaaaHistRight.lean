/- The row of HistRight: for every input the law answers true, and all reads as it did. No further condition. -/
import Derived.Test.YtokdkmlpfkeeaaaHistA
import Derived.Test.YtokdkmlpfkeeaaaRows
import Derived.JoinedOf
set_option maxRecDepth 100000
set_option linter.unusedVariables false
namespace Go.Proofs.Ytokdkmlpfkeeaaa.histRight
open Go.Fx
theorem own : ownKnob Try.prog.godebug = none := by kernel_rfl
theorem laidOut : laidOutB Try.prog = true := by kernel_rfl
theorem lifted (os : Os) (started : os.Started) (H : Type) (enc : TypeId × Value → H) :
    ReturnsInHanded {} Try.checked os 7 .any (Rows.histRightSpec.pre6 enc Try.prog Try.f7 Rows.histRightRow.domain false) (Rows.histRightSpec.post enc Try.prog Try.f7 false true false false) :=
  Go.Fx.row (C := Try.checked) (l := [.st [.arr 9 (.int .i64), .int .i64], .int .i64, .int .i64, .int .i64]) (tb := 4) own started (by kernel_rfl) Try.func7
    (ChangeSpec.witness6 (enc := enc) (C := Try.checked) false ⟨#[], #[.agg #[.int .i64 0, .int .i64 0, .int .i64 0, .int .i64 0, .int .i64 0, .int .i64 0, .int .i64 0, .int .i64 0, .int .i64 0, .int .i64 0], .int .i64 0, .int .i64 0, .int .i64 0], []⟩ 12 (by kernel_rfl) (by kernel_rfl) (by kernel_rfl) (by kernel_rfl))
    laidOut hP (by kernel_rfl) rfl (fun ds h => match ds, h with | [d0, d1, d2, d3], _ => rfl) rfl Try.underlying4
    fun x w => Hist.law7 (x.1.1 0) (x.1.1 1) (x.1.1 2) (x.1.1 3) (x.1.1 4) (x.1.1 5) (x.1.1 6) (x.1.1 7) (x.1.1 8) x.1.2.1 x.2.1 x.2.2.1 x.2.2.2.1 (wf_i64 w.2.1) (wf_i64 w.2.2.1)
theorem over : Rows.histRightRow.holds Try.pinned (OpenSpec.ofChange Rows.histRightSpec) :=
  OpenClaim.holds_of_wide 7 Try.f7 rfl rfl rfl rfl rfl rfl rfl ⟨rfl, rfl, rfl, rfl, rfl⟩ rfl rfl rfl rfl rfl (by kernel_rfl) Try.func7 (by kernel_rfl)
    (of_decide_eq_true (by kernel_rfl)) (by unfold Func.isWrapper; first | (rw [if_pos (by decide +kernel)]; kernel_rfl) | (rw [if_neg (by decide +kernel)]; exact ⟨rfl, rfl⟩))
    (fun os started H enc _ => lifted os started H enc)
theorem proved : Rows.HistRightSaid := over
#print axioms proved
end Go.Proofs.Ytokdkmlpfkeeaaa.histRight
namespace Go.Proofs.Ytokdkmlpfkeeaaa
/-- The row, under a short name, for the claim. -/
theorem HistRight_holds : Rows.HistRightSaid := histRight.proved
end Go.Proofs.Ytokdkmlpfkeeaaa
