/- The row of HistGrows: for every input the law answers true, and all reads as it did. No further condition. -/
import Derived.Test.YtokdkmlpfkeeaaaHistD
import Derived.Test.YtokdkmlpfkeeaaaRows
import Derived.JoinedOf
set_option maxRecDepth 100000
set_option linter.unusedVariables false
namespace Go.Proofs.Ytokdkmlpfkeeaaa.histGrows
open Go.Fx
theorem own : ownKnob Try.prog.godebug = none := by kernel_rfl
theorem laidOut : laidOutB Try.prog = true := by kernel_rfl
theorem lifted (os : Os) (started : os.Started) (H : Type) (enc : TypeId × Value → H) :
    ReturnsInHanded {} Try.checked os 8 .any (Rows.histGrowsSpec.pre6 enc Try.prog Try.f8 Rows.histGrowsRow.domain false) (Rows.histGrowsSpec.post enc Try.prog Try.f8 false true false false) :=
  Go.Fx.row (C := Try.checked) (l := [.sl (.int .i32), .int .i64]) (tb := 4) own started (by kernel_rfl) Try.func8
    (ChangeSpec.witness6 (enc := enc) (C := Try.checked) false ⟨#[], #[.slice none 0 0, .int .i64 0], []⟩ 12 (by kernel_rfl) (by kernel_rfl) (by kernel_rfl) (by kernel_rfl))
    laidOut hP (by kernel_rfl) rfl (fun ds h => match ds, h with | [d0, d1], _ => rfl) rfl Try.underlying4
    fun x w => Hist.law8 x.1.1 x.1.2 x.2.1 (fun i => wf_i32 (w.1.2 i))
theorem over : Rows.histGrowsRow.holds Try.pinned (OpenSpec.ofChange Rows.histGrowsSpec) :=
  OpenClaim.holds_of_wide 8 Try.f8 rfl rfl rfl rfl rfl rfl rfl ⟨rfl, rfl, rfl, rfl, rfl⟩ rfl rfl rfl rfl rfl (by kernel_rfl) Try.func8 (by kernel_rfl)
    (of_decide_eq_true (by kernel_rfl)) (by unfold Func.isWrapper; first | (rw [if_pos (by decide +kernel)]; kernel_rfl) | (rw [if_neg (by decide +kernel)]; exact ⟨rfl, rfl⟩))
    (fun os started H enc _ => lifted os started H enc)
theorem proved : Rows.HistGrowsSaid := over
#print axioms proved
end Go.Proofs.Ytokdkmlpfkeeaaa.histGrows
namespace Go.Proofs.Ytokdkmlpfkeeaaa
/-- The row, under a short name, for the claim. -/
theorem HistGrows_holds : Rows.HistGrowsSaid := histGrows.proved
end Go.Proofs.Ytokdkmlpfkeeaaa
