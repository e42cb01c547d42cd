/- The row of CrcBack: for every input the law answers true, and all reads as it did. No further condition. -/
import Derived.Test.YtaodejfbmnoelaaCrcR
import Derived.Test.YtaodejfbmnoelaaRows
import Derived.JoinedOf
set_option maxRecDepth 100000
set_option linter.unusedVariables false
namespace Go.Proofs.Ytaodejfbmnoelaa.crcBack
open Go.Fx
theorem own : ownKnob Try.prog.godebug = none := by kernel_rfl
theorem laidOut : laidOutB Try.prog = true := by kernel_rfl
theorem lifted (os : Os) (started : os.Started) (H : Type) (enc : TypeId × Value → H) :
    ReturnsInHanded {} Try.checked os 13 .any (Rows.crcBackSpec.pre6 enc Try.prog Try.f13 Rows.crcBackRow.domain false) (Rows.crcBackSpec.post enc Try.prog Try.f13 false true false false) :=
  Go.Fx.row (C := Try.checked) (l := [.arr 256 (.int .u32), .int .u32, .int .u32, .sl (.int .u8), .int .u16]) (tb := 4) own started (by kernel_rfl) Try.func13
    (ChangeSpec.witness6 (enc := enc) (C := Try.checked) false ⟨#[], #[.agg (Array.replicate 256 (.int .u32 0)), .int .u32 0, .int .u32 0, .slice none 0 0, .int .u16 0], []⟩ 12 (by kernel_rfl) (by kernel_rfl) (by kernel_rfl) (by kernel_rfl))
    laidOut hP (by kernel_rfl) rfl (fun ds h => match ds, h with | [d0, d1, d2, d3, d4], _ => rfl) rfl Try.underlying4
    fun x w => Crc.row13 x.1 x.2.1 x.2.2.1 x.2.2.2.1.1 x.2.2.2.1.2 x.2.2.2.2.1 (fun i => wf_u32 (w.1 i)) (wf_u32 w.2.1) (wf_u32 w.2.2.1) (fun i => wf_u8 (w.2.2.2.1.2 i)) (wf_u16 w.2.2.2.2.1)
theorem over : Rows.crcBackRow.holds Try.pinned (OpenSpec.ofChange Rows.crcBackSpec) :=
  OpenClaim.holds_of_wide 13 Try.f13 rfl rfl rfl rfl rfl rfl rfl ⟨rfl, rfl, rfl, rfl, rfl⟩ rfl rfl rfl rfl rfl (by kernel_rfl) Try.func13 (by kernel_rfl)
    (of_decide_eq_true (by kernel_rfl)) (by unfold Func.isWrapper; first | (rw [if_pos (by decide +kernel)]; kernel_rfl) | (rw [if_neg (by decide +kernel)]; exact ⟨rfl, rfl⟩))
    (fun os started H enc _ => lifted os started H enc)
theorem proved : Rows.CrcBackSaid := over
#print axioms proved
end Go.Proofs.Ytaodejfbmnoelaa.crcBack
namespace Go.Proofs.Ytaodejfbmnoelaa
/-- The row, under a short name, for the claim. -/
theorem CrcBack_holds : Rows.CrcBackSaid := crcBack.proved
end Go.Proofs.Ytaodejfbmnoelaa
