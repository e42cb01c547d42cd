/- The row of BucketHolds: for every input the law answers true, and all reads as it did. No further condition. -/
import Derived.Test.YtaodejfbmnoelaaBucketB
import Derived.Test.YtaodejfbmnoelaaRows
import Derived.JoinedOf
set_option maxRecDepth 100000
set_option linter.unusedVariables false
namespace Go.Proofs.Ytaodejfbmnoelaa.bucketHolds
open Go.Fx
theorem own : ownKnob Try.prog.godebug = none := by kernel_rfl
theorem laidOut : laidOutB Try.prog = true := by kernel_rfl
theorem lifted (os : Os) (started : os.Started) (H : Type) (enc : TypeId × Value → H) :
    ReturnsInHanded {} Try.checked os 7 .any (Rows.bucketHoldsSpec.pre6 enc Try.prog Try.f7 Rows.bucketHoldsRow.domain false) (Rows.bucketHoldsSpec.post enc Try.prog Try.f7 false true false false) :=
  Go.Fx.row (C := Try.checked) (l := [.st [.int .i64, .int .i64], .sl (.int .i32)]) (tb := 4) own started (by kernel_rfl) Try.func7
    (ChangeSpec.witness6 (enc := enc) (C := Try.checked) false ⟨#[], #[.agg #[.int .i64 0, .int .i64 0], .slice none 0 0], []⟩ 12 (by kernel_rfl) (by kernel_rfl) (by kernel_rfl) (by kernel_rfl))
    laidOut hP (by kernel_rfl) rfl (fun ds h => match ds, h with | [d0, d1], _ => rfl) rfl Try.underlying4
    fun x w => Bucket.law7 x.1.1 x.1.2.1 x.2.1.1 x.2.1.2 (fun i => wf_i32 (w.2.1.2 i))
theorem over : Rows.bucketHoldsRow.holds Try.pinned (OpenSpec.ofChange Rows.bucketHoldsSpec) :=
  OpenClaim.holds_of_wide 7 Try.f7 rfl rfl rfl rfl rfl rfl rfl ⟨rfl, rfl, rfl, rfl, rfl⟩ rfl rfl rfl rfl rfl (by kernel_rfl) Try.func7 (by kernel_rfl)
    (of_decide_eq_true (by kernel_rfl)) (by unfold Func.isWrapper; first | (rw [if_pos (by decide +kernel)]; kernel_rfl) | (rw [if_neg (by decide +kernel)]; exact ⟨rfl, rfl⟩))
    (fun os started H enc _ => lifted os started H enc)
theorem proved : Rows.BucketHoldsSaid := over
#print axioms proved
end Go.Proofs.Ytaodejfbmnoelaa.bucketHolds
namespace Go.Proofs.Ytaodejfbmnoelaa
/-- The row, under a short name, for the claim. -/
theorem BucketHolds_holds : Rows.BucketHoldsSaid := bucketHolds.proved
end Go.Proofs.Ytaodejfbmnoelaa
