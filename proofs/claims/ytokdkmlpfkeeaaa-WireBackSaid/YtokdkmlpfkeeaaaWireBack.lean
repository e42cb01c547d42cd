/- The row of WireBack: for every input the law answers true, and all reads as it did. No further condition. -/
import Derived.Test.YtokdkmlpfkeeaaaWireY
import Derived.Test.YtokdkmlpfkeeaaaRows
import Derived.JoinedOf
set_option maxRecDepth 100000
set_option linter.unusedVariables false
namespace Go.Proofs.Ytokdkmlpfkeeaaa.wireBack
open Go.Fx
theorem own : ownKnob Try.prog.godebug = none := by kernel_rfl
theorem laidOut : laidOutB Try.prog = true := by kernel_rfl
theorem lifted (os : Os) (started : os.Started) (H : Type) (enc : TypeId × Value → H) :
    ReturnsInHanded {} Try.checked os 12 .any (Rows.wireBackSpec.pre6 enc Try.prog Try.f12 Rows.wireBackRow.domain false) (Rows.wireBackSpec.post enc Try.prog Try.f12 false true false false) :=
  Go.Fx.row (C := Try.checked) (l := [.sl (.int .u64), .sl (.int .i64), .sl .str, .int .u16]) (tb := 4) own started (by kernel_rfl) Try.func12
    (ChangeSpec.witness6 (enc := enc) (C := Try.checked) false ⟨#[], #[.slice none 0 0, .slice none 0 0, .slice none 0 0, .int .u16 0], []⟩ 12 (by kernel_rfl) (by kernel_rfl) (by kernel_rfl) (by kernel_rfl))
    laidOut hP (by kernel_rfl) rfl (fun ds h => match ds, h with | [d0, d1, d2, d3], _ => rfl) rfl Try.underlying4
    fun x w => Wire.rowBack x.1.1 x.1.2 x.2.1.1 x.2.1.2 x.2.2.1.1 x.2.2.1.2 x.2.2.2.1 (fun i => wf_u64 (w.1.2 i)) (fun i => wf_i64 (w.2.1.2 i)) (wf_u16 w.2.2.2.1)
theorem over : Rows.wireBackRow.holds Try.pinned (OpenSpec.ofChange Rows.wireBackSpec) :=
  OpenClaim.holds_of_wide 12 Try.f12 rfl rfl rfl rfl rfl rfl rfl ⟨rfl, rfl, rfl, rfl, rfl⟩ rfl rfl rfl rfl rfl (by kernel_rfl) Try.func12 (by kernel_rfl)
    (of_decide_eq_true (by kernel_rfl)) (by unfold Func.isWrapper; first | (rw [if_pos (by decide +kernel)]; kernel_rfl) | (rw [if_neg (by decide +kernel)]; exact ⟨rfl, rfl⟩))
    (fun os started H enc _ => lifted os started H enc)
theorem proved : Rows.WireBackSaid := over
#print axioms proved
end Go.Proofs.Ytokdkmlpfkeeaaa.wireBack
namespace Go.Proofs.Ytokdkmlpfkeeaaa
/-- The row, under a short name, for the claim. -/
theorem WireBack_holds : Rows.WireBackSaid := wireBack.proved
end Go.Proofs.Ytokdkmlpfkeeaaa
