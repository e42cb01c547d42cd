/- The row of TallyTurns: for every input the law answers true, and all reads as it did. No further condition. -/
import Derived.Test.YtokdkmlpfkeeaaaTallyB
import Derived.Test.YtokdkmlpfkeeaaaRows
import Derived.JoinedOf
set_option maxRecDepth 100000
set_option linter.unusedVariables false
namespace Go.Proofs.Ytokdkmlpfkeeaaa.tallyTurns
open Go.Fx
theorem own : ownKnob Try.prog.godebug = none := by kernel_rfl
theorem laidOut : laidOutB Try.prog = true := by kernel_rfl
theorem lifted (os : Os) (started : os.Started) (H : Type) (enc : TypeId × Value → H) :
    ReturnsInHanded {} Try.checked os 5 .any (Rows.tallyTurnsSpec.pre6 enc Try.prog Try.f5 Rows.tallyTurnsRow.domain false) (Rows.tallyTurnsSpec.post enc Try.prog Try.f5 false true false false) :=
  Go.Fx.row (C := Try.checked) (l := [.int .i64, .int .i64, .int .i64, .int .i64, .int .i16, .int .i16]) (tb := 4) own started (by kernel_rfl) Try.func5
    (ChangeSpec.witness6 (enc := enc) (C := Try.checked) false ⟨#[], #[.int .i64 0, .int .i64 0, .int .i64 0, .int .i64 0, .int .i16 0, .int .i16 0], []⟩ 12 (by kernel_rfl) (by kernel_rfl) (by kernel_rfl) (by kernel_rfl))
    laidOut hP (by kernel_rfl) rfl (fun ds h => match ds, h with | [d0, d1, d2, d3, d4, d5], _ => rfl) rfl Try.underlying4
    fun x w => Tally.law5 (a := x.1) (b := x.2.1) (c := x.2.2.1) (d := x.2.2.2.1) (m := x.2.2.2.2.1) (n := x.2.2.2.2.2.1) (wf_i16 w.2.2.2.2.1) (wf_i16 w.2.2.2.2.2.1)
theorem over : Rows.tallyTurnsRow.holds Try.pinned (OpenSpec.ofChange Rows.tallyTurnsSpec) :=
  OpenClaim.holds_of_wide 5 Try.f5 rfl rfl rfl rfl rfl rfl rfl ⟨rfl, rfl, rfl, rfl, rfl⟩ rfl rfl rfl rfl rfl (by kernel_rfl) Try.func5 (by kernel_rfl)
    (of_decide_eq_true (by kernel_rfl)) (by unfold Func.isWrapper; first | (rw [if_pos (by decide +kernel)]; kernel_rfl) | (rw [if_neg (by decide +kernel)]; exact ⟨rfl, rfl⟩))
    (fun os started H enc _ => lifted os started H enc)
theorem proved : Rows.TallyTurnsSaid := over
#print axioms proved
end Go.Proofs.Ytokdkmlpfkeeaaa.tallyTurns
namespace Go.Proofs.Ytokdkmlpfkeeaaa
/-- The row, under a short name, for the claim. -/
theorem TallyTurns_holds : Rows.TallyTurnsSaid := tallyTurns.proved
end Go.Proofs.Ytokdkmlpfkeeaaa
