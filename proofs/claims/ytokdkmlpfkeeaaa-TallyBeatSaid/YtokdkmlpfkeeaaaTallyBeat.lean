/- The row of TallyBeat: for every input the law answers true, and all reads as it did. No further condition. -/
import Derived.Test.YtokdkmlpfkeeaaaTallyB
import Derived.Test.YtokdkmlpfkeeaaaRows
import Derived.JoinedOf
set_option maxRecDepth 100000
set_option linter.unusedVariables false
namespace Go.Proofs.Ytokdkmlpfkeeaaa.tallyBeat
open Go.Fx
theorem own : ownKnob Try.prog.godebug = none := by kernel_rfl
theorem laidOut : laidOutB Try.prog = true := by kernel_rfl
theorem lifted (os : Os) (started : os.Started) (H : Type) (enc : TypeId × Value → H) :
    ReturnsInHanded {} Try.checked os 6 .any (Rows.tallyBeatSpec.pre6 enc Try.prog Try.f6 Rows.tallyBeatRow.domain false) (Rows.tallyBeatSpec.post enc Try.prog Try.f6 false true false false) :=
  Go.Fx.row (C := Try.checked) (l := [.sl (.int .i64), .int .i64, .int .u8]) (tb := 4) own started (by kernel_rfl) Try.func6
    (ChangeSpec.witness6 (enc := enc) (C := Try.checked) false ⟨#[], #[.slice none 0 0, .int .i64 0, .int .u8 0], []⟩ 12 (by kernel_rfl) (by kernel_rfl) (by kernel_rfl) (by kernel_rfl))
    laidOut hP (by kernel_rfl) rfl (fun ds h => match ds, h with | [d0, d1, d2], _ => rfl) rfl Try.underlying4
    fun x w => Tally.row6 x.1.1 x.1.2 x.2.1 x.2.2.1 (wf_u8 w.2.2.1)
theorem over : Rows.tallyBeatRow.holds Try.pinned (OpenSpec.ofChange Rows.tallyBeatSpec) :=
  OpenClaim.holds_of_wide 6 Try.f6 rfl rfl rfl rfl rfl rfl rfl ⟨rfl, rfl, rfl, rfl, rfl⟩ rfl rfl rfl rfl rfl (by kernel_rfl) Try.func6 (by kernel_rfl)
    (of_decide_eq_true (by kernel_rfl)) (by unfold Func.isWrapper; first | (rw [if_pos (by decide +kernel)]; kernel_rfl) | (rw [if_neg (by decide +kernel)]; exact ⟨rfl, rfl⟩))
    (fun os started H enc _ => lifted os started H enc)
theorem proved : Rows.TallyBeatSaid := over
#print axioms proved
end Go.Proofs.Ytokdkmlpfkeeaaa.tallyBeat
namespace Go.Proofs.Ytokdkmlpfkeeaaa
/-- The row, under a short name, for the claim. -/
theorem TallyBeat_holds : Rows.TallyBeatSaid := tallyBeat.proved
end Go.Proofs.Ytokdkmlpfkeeaaa
