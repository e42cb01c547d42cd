/- The row of NamesPlaces: for every input the law answers true, and all reads as it did. No further condition. -/
import Derived.Test.YtaodejfbmnoelaaNamesB
import Derived.Test.YtaodejfbmnoelaaRows
import Derived.JoinedOf
set_option maxRecDepth 100000
set_option linter.unusedVariables false
namespace Go.Proofs.Ytaodejfbmnoelaa.namesPlaces
open Go.Fx
theorem own : ownKnob Try.prog.godebug = none := by kernel_rfl
theorem laidOut : laidOutB Try.prog = true := by kernel_rfl
theorem lifted (os : Os) (started : os.Started) (H : Type) (enc : TypeId × Value → H) :
    ReturnsInHanded {} Try.checked os 10 .any (Rows.namesPlacesSpec.pre6 enc Try.prog Try.f10 Rows.namesPlacesRow.domain false) (Rows.namesPlacesSpec.post enc Try.prog Try.f10 false true false false) :=
  Go.Fx.row (C := Try.checked) (l := [.sl .str]) (tb := 4) own started (by kernel_rfl) Try.func10
    (ChangeSpec.witness6 (enc := enc) (C := Try.checked) false ⟨#[], #[.slice none 0 0], []⟩ 12 (by kernel_rfl) (by kernel_rfl) (by kernel_rfl) (by kernel_rfl))
    laidOut hP (by kernel_rfl) rfl (fun ds h => match ds, h with | [d0], _ => rfl) rfl Try.underlying4
    fun x w => Names.law10 (n := x.1.1) (s := x.1.2) w.1.1 (fun i => w.1.2 i)
theorem over : Rows.namesPlacesRow.holds Try.pinned (OpenSpec.ofChange Rows.namesPlacesSpec) :=
  OpenClaim.holds_of_wide 10 Try.f10 rfl rfl rfl rfl rfl rfl rfl ⟨rfl, rfl, rfl, rfl, rfl⟩ rfl rfl rfl rfl rfl (by kernel_rfl) Try.func10 (by kernel_rfl)
    (of_decide_eq_true (by kernel_rfl)) (by unfold Func.isWrapper; first | (rw [if_pos (by decide +kernel)]; kernel_rfl) | (rw [if_neg (by decide +kernel)]; exact ⟨rfl, rfl⟩))
    (fun os started H enc _ => lifted os started H enc)
theorem proved : Rows.NamesPlacesSaid := over
#print axioms proved
end Go.Proofs.Ytaodejfbmnoelaa.namesPlaces
namespace Go.Proofs.Ytaodejfbmnoelaa
/-- The row, under a short name, for the claim. -/
theorem NamesPlaces_holds : Rows.NamesPlacesSaid := namesPlaces.proved
end Go.Proofs.Ytaodejfbmnoelaa
