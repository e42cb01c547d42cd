/- The row of BucketJoins: for every input the law answers true, and all reads as it did. No further condition. -/
import Derived.Test.YtaodejfbmnoelaaBucketB
import Derived.Test.YtaodejfbmnoelaaRows
import Derived.JoinedOf
set_option maxRecDepth 100000
set_option linter.unusedVariables false
namespace Go.Proofs.Ytaodejfbmnoelaa.bucketJoins
open Go.Fx
theorem own : ownKnob Try.prog.godebug = none := by kernel_rfl
theorem laidOut : laidOutB Try.prog = true := by kernel_rfl
theorem lifted (os : Os) (started : os.Started) (H : Type) (enc : TypeId × Value → H) :
    ReturnsInHanded {} Try.checked os 8 .any (Rows.bucketJoinsSpec.pre6 enc Try.prog Try.f8 Rows.bucketJoinsRow.domain false) (Rows.bucketJoinsSpec.post enc Try.prog Try.f8 false true false false) :=
  Go.Fx.row (C := Try.checked) (l := [.st [.int .i64, .int .i64], .int .u32, .int .u32]) (tb := 4) own started (by kernel_rfl) Try.func8
    (ChangeSpec.witness6 (enc := enc) (C := Try.checked) false ⟨#[], #[.agg #[.int .i64 0, .int .i64 0], .int .u32 0, .int .u32 0], []⟩ 12 (by kernel_rfl) (by kernel_rfl) (by kernel_rfl) (by kernel_rfl))
    laidOut hP (by kernel_rfl) rfl (fun ds h => match ds, h with | [d0, d1, d2], _ => rfl) rfl Try.underlying4
    fun x w => Bucket.law8 x.1.1 x.1.2.1 x.2.1 x.2.2.1 (wf_u32 w.2.1) (wf_u32 w.2.2.1)
theorem over : Rows.bucketJoinsRow.holds Try.pinned (OpenSpec.ofChange Rows.bucketJoinsSpec) :=
  OpenClaim.holds_of_wide 8 Try.f8 rfl rfl rfl rfl rfl rfl rfl ⟨rfl, rfl, rfl, rfl, rfl⟩ rfl rfl rfl rfl rfl (by kernel_rfl) Try.func8 (by kernel_rfl)
    (of_decide_eq_true (by kernel_rfl)) (by unfold Func.isWrapper; first | (rw [if_pos (by decide +kernel)]; kernel_rfl) | (rw [if_neg (by decide +kernel)]; exact ⟨rfl, rfl⟩))
    (fun os started H enc _ => lifted os started H enc)
theorem proved : Rows.BucketJoinsSaid := over
#print axioms proved
end Go.Proofs.Ytaodejfbmnoelaa.bucketJoins
namespace Go.Proofs.Ytaodejfbmnoelaa
/-- The row, under a short name, for the claim. -/
theorem BucketJoins_holds : Rows.BucketJoinsSaid := bucketJoins.proved
end Go.Proofs.Ytaodejfbmnoelaa
