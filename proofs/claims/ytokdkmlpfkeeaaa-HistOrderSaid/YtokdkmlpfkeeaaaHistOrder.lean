/- The row of HistOrder: for every input the law answers true, and all reads as it did. No further condition. -/
import Derived.Test.YtokdkmlpfkeeaaaHistB
import Derived.Test.YtokdkmlpfkeeaaaRows
import Derived.JoinedOf
set_option maxRecDepth 100000
set_option linter.unusedVariables false
namespace Go.Proofs.Ytokdkmlpfkeeaaa.histOrder
open Go.Fx
theorem own : ownKnob Try.prog.godebug = none := by kernel_rfl
theorem laidOut : laidOutB Try.prog = true := by kernel_rfl
theorem lifted (os : Os) (started : os.Started) (H : Type) (enc : TypeId × Value → H) :
    ReturnsInHanded {} Try.checked os 9 .any (Rows.histOrderSpec.pre6 enc Try.prog Try.f9 Rows.histOrderRow.domain false) (Rows.histOrderSpec.post enc Try.prog Try.f9 false true false false) :=
  Go.Fx.row (C := Try.checked) (l := [.st [.arr 9 (.int .i64), .int .i64], .sl (.int .i32)]) (tb := 4) own started (by kernel_rfl) Try.func9
    (ChangeSpec.witness6 (enc := enc) (C := Try.checked) false ⟨#[], #[.agg #[.int .i64 0, .int .i64 0, .int .i64 0, .int .i64 0, .int .i64 0, .int .i64 0, .int .i64 0, .int .i64 0, .int .i64 0, .int .i64 0], .slice none 0 0], []⟩ 12 (by kernel_rfl) (by kernel_rfl) (by kernel_rfl) (by kernel_rfl))
    laidOut hP (by kernel_rfl) rfl (fun ds h => match ds, h with | [d0, d1], _ => rfl) rfl Try.underlying4
    fun x w => Hist.law9 (x.1.1 0) (x.1.1 1) (x.1.1 2) (x.1.1 3) (x.1.1 4) (x.1.1 5) (x.1.1 6) (x.1.1 7) (x.1.1 8) x.1.2.1 x.2.1.1 x.2.1.2 (fun i => wf_i32 (w.2.1.2 i))
theorem over : Rows.histOrderRow.holds Try.pinned (OpenSpec.ofChange Rows.histOrderSpec) :=
  OpenClaim.holds_of_wide 9 Try.f9 rfl rfl rfl rfl rfl rfl rfl ⟨rfl, rfl, rfl, rfl, rfl⟩ rfl rfl rfl rfl rfl (by kernel_rfl) Try.func9 (by kernel_rfl)
    (of_decide_eq_true (by kernel_rfl)) (by unfold Func.isWrapper; first | (rw [if_pos (by decide +kernel)]; kernel_rfl) | (rw [if_neg (by decide +kernel)]; exact ⟨rfl, rfl⟩))
    (fun os started H enc _ => lifted os started H enc)
theorem proved : Rows.HistOrderSaid := over
#print axioms proved
end Go.Proofs.Ytokdkmlpfkeeaaa.histOrder
namespace Go.Proofs.Ytokdkmlpfkeeaaa
/-- The row, under a short name, for the claim. -/
theorem HistOrder_holds : Rows.HistOrderSaid := histOrder.proved
end Go.Proofs.Ytokdkmlpfkeeaaa
