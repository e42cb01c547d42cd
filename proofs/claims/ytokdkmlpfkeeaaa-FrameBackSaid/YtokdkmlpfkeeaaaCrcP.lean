/- Sums of bytes: by the table. -/
import Derived.Test.YtokdkmlpfkeeaaaCrcW
import Derived.Test.YtokdkmlpfkeeaaaCrcT
set_option maxRecDepth 100000
set_option maxHeartbeats 4000000
set_option linter.unusedVariables false
set_option linter.unusedSimpArgs false
namespace Go.Fx
open Go.Proofs
namespace Crc
attribute [local irreducible] QOk
theorem cTable : QOk Try.prog CK (.call 73 [] []) ⟨.ret, [Tab], []⟩ := c46
theorem stp8_all (i : Nat) : stp8 (i % 256) < 4294967296 := stp8_lt (by omega)
theorem tab_mod : tbC (fun i => stp8 (i % 256)) = tbC stp8 := by
  unfold tbC
  apply List.map_congr_left
  intro i hi
  show CV.p (PV.v (Value.int IntKind.u32 ((stp8 (i % 256) : Nat) : Int))) = _
  rw [Nat.mod_eq_of_lt (by simpa using hi)]
theorem tbN_mod (t : Nat → Nat) (i : Nat) (h : i < 256) : tbN (tbC t) i = t i := tbN_tb t i h
theorem seal_tb (t : Nat → Nat) (n : Nat) (f : Nat → List PV) : sealN (tbN (tbC t)) n f = sealN t n f := sumN_tb t 0 n _ (fun i _ => byN_lt f i)
theorem cSeal' {t : Nat → Nat} (ht : ∀ i, t i < 4294967296) {n : Nat} {f : Nat → List PV} (hf : BOk n f) (hn : big n) : QOk Try.prog CK (.call 72 [Tb t, Sl n f] []) ⟨.ret, [.c (.os 0)], [rowB (n + 4) (catF n f (fourF (sealN (tbN (tbC t)) n f)))]⟩ := by
  rw [seal_tb]
  exact cSeal ht hf hn
theorem pSum {s n : Nat} {f : Nat → List PV} (hf : BOk n f) (hn : big n) (hs : s < 4294967296) : QOk Try.prog CK (.call 85 [Tab, U32 s, Sl n f] []) ⟨.ret, [U32 (sumN (tbN (tbC stp8)) s n (byN f))], []⟩ := by
  have h := cSum stp8_all hf hn hs
  rw [tab_mod] at h
  exact h
theorem pSeal {n : Nat} {f : Nat → List PV} (hf : BOk n f) (hn : big n) : QOk Try.prog CK (.call 72 [Tab, Sl n f] []) ⟨.ret, [.c (.os 0)], [rowB (n + 4) (catF n f (fourF (sealN (tbN (tbC stp8)) n f)))]⟩ := by
  have h := cSeal' stp8_all hf hn
  rw [tab_mod] at h
  exact h
theorem pOpen {n : Nat} {f : Nat → List PV} (hf : BOk n f) (hn : big n) : QOk Try.prog CK (.call 75 [Tab, Sl n f] []) (Sa.val (openS (tbN (tbC stp8)) n f)) := by
  have h := cOpen stp8_all hf hn
  rw [tab_mod] at h
  exact h
theorem sumP {n : Nat} {b : Nat → Nat} (hb : ∀ i, b i < 256) : sumN (tbN (tbC stp8)) 0 n b = plainN n b := by
  rw [sumN_tb _ _ _ _ (fun i _ => hb i), sumN_plain hb]
end Crc
end Go.Fx
