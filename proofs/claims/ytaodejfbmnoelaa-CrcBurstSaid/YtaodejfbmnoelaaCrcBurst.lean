/- The row of CrcBurst: for every input the law answers true, and all reads as it did. No further condition. -/
import Derived.Test.YtaodejfbmnoelaaCrcR
import Derived.Test.YtaodejfbmnoelaaRows
import Derived.JoinedOf
set_option maxRecDepth 100000
set_option linter.unusedVariables false
namespace Go.Proofs.Ytaodejfbmnoelaa.crcBurst
open Go.Fx
theorem own : ownKnob Try.prog.godebug = none := by kernel_rfl
theorem laidOut : laidOutB Try.prog = true := by kernel_rfl
theorem lifted (os : Os) (started : os.Started) (H : Type) (enc : TypeId × Value → H) :
    ReturnsInHanded {} Try.checked os 14 .any (Rows.crcBurstSpec.pre6 enc Try.prog Try.f14 Rows.crcBurstRow.domain false) (Rows.crcBurstSpec.post enc Try.prog Try.f14 false true false false) :=
  Go.Fx.row (C := Try.checked) (l := [.sl (.int .u8), .int .u16, .arr 4 (.int .u8)]) (tb := 4) own started (by kernel_rfl) Try.func14
    (ChangeSpec.witness6 (enc := enc) (C := Try.checked) false ⟨#[], #[.slice none 0 0, .int .u16 0, .agg #[.int .u8 0, .int .u8 0, .int .u8 0, .int .u8 0]], []⟩ 12 (by kernel_rfl) (by kernel_rfl) (by kernel_rfl) (by kernel_rfl))
    laidOut hP (by kernel_rfl) rfl (fun ds h => match ds, h with | [d0, d1, d2], _ => rfl) rfl Try.underlying4
    fun x w => Crc.row14 x.1.1 x.1.2 x.2.1 x.2.2.1 (fun i => wf_u8 (w.1.2 i)) (wf_u16 w.2.1) (fun i => wf_u8 (w.2.2.1 i))
theorem over : Rows.crcBurstRow.holds Try.pinned (OpenSpec.ofChange Rows.crcBurstSpec) :=
  OpenClaim.holds_of_wide 14 Try.f14 rfl rfl rfl rfl rfl rfl rfl ⟨rfl, rfl, rfl, rfl, rfl⟩ rfl rfl rfl rfl rfl (by kernel_rfl) Try.func14 (by kernel_rfl)
    (of_decide_eq_true (by kernel_rfl)) (by unfold Func.isWrapper; first | (rw [if_pos (by decide +kernel)]; kernel_rfl) | (rw [if_neg (by decide +kernel)]; exact ⟨rfl, rfl⟩))
    (fun os started H enc _ => lifted os started H enc)
theorem proved : Rows.CrcBurstSaid := over
#print axioms proved
end Go.Proofs.Ytaodejfbmnoelaa.crcBurst
namespace Go.Proofs.Ytaodejfbmnoelaa
/-- The row, under a short name, for the claim. -/
theorem CrcBurst_holds : Rows.CrcBurstSaid := crcBurst.proved
end Go.Proofs.Ytaodejfbmnoelaa
