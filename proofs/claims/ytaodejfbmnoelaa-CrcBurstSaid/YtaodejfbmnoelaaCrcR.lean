/- Sums of bytes: the laws, of what a row is handed. -/
import Derived.Test.YtaodejfbmnoelaaCrcX
import Derived.Test.YtaodejfbmnoelaaCrcY
import Derived.Test.YtaodejfbmnoelaaFxRow
set_option maxRecDepth 100000
set_option maxHeartbeats 4000000
set_option linter.unusedVariables false
set_option linter.unusedSimpArgs false
namespace Go.Fx
open Go.Proofs
namespace Crc
theorem av_tab (x : Nat → Int) (h : ∀ i, 0 ≤ x i ∧ x i ≤ 4294967295) : Sh.av (.arr 256 (.int .u32)) x = Tb (fun i => (x i).toNat) := by
  have e : ((List.range 256).flatMap fun i => [PV.v (Value.int .u32 (x i))]).map CV.p = tbC (fun i => (x i).toNat) := by
    rw [List.map_flatMap]
    show (List.range 256).flatMap (fun i => [CV.p (PV.v (Value.int .u32 (x i)))]) = _
    rw [← List.map_eq_flatMap]
    apply List.map_congr_left
    intro i _
    rw [Int.toNat_of_nonneg (h i).1]
  exact congrArg AV.agg e
theorem av_int (k : IntKind) (x : Int) (h : 0 ≤ x) : Sh.av (.int k) x = .c (.p (.v (.int k ((x.toNat : Nat) : Int)))) := by
  rw [Int.toNat_of_nonneg h]; rfl
theorem av_bytes (n : Nat) (f : Nat → Int) (h : ∀ i, 0 ≤ f i ∧ f i ≤ 255) : Sh.av (.sl (.int .u8)) (n, f) = Sl n (Bs (fun i => (f i).toNat)) := by
  have e : (fun i => [PV.v (Value.int .u8 (f i))]) = Bs (fun i => (f i).toNat) := funext fun i => by
    show _ = [_]
    rw [Int.toNat_of_nonneg (h i).1]
  exact congrArg (fun g => Sl n g) e
theorem row11 (t : Nat → Int) (s : Int) (n : Nat) (f : Nat → Int) (h1 : ∀ i, 0 ≤ t i ∧ t i ≤ 4294967295) (h2 : 0 ≤ s ∧ s ≤ 4294967295) (h3 : ∀ i, 0 ≤ f i ∧ f i ≤ 255) : CallIn Try.prog 11 [Sh.av (.arr 256 (.int .u32)) t, Sh.av (.int .u32) s, Sh.av (.sl (.int .u8)) (n, f)] [] ⟨.ret, [B true], []⟩ := by
  rw [av_tab t h1, av_int _ s h2.1, av_bytes n f h3]
  exact law11 (fun i => by have := h1 i; omega) (fun i => by have := h3 i; omega) (by omega)
theorem row13 (t : Nat → Int) (s u : Int) (n : Nat) (f : Nat → Int) (c : Int) (h1 : ∀ i, 0 ≤ t i ∧ t i ≤ 4294967295) (h2 : 0 ≤ s ∧ s ≤ 4294967295) (h5 : 0 ≤ u ∧ u ≤ 4294967295) (h3 : ∀ i, 0 ≤ f i ∧ f i ≤ 255) (h6 : 0 ≤ c ∧ c ≤ 65535) : CallIn Try.prog 13 [Sh.av (.arr 256 (.int .u32)) t, Sh.av (.int .u32) s, Sh.av (.int .u32) u, Sh.av (.sl (.int .u8)) (n, f), Sh.av (.int .u16) c] [] ⟨.ret, [B true], []⟩ := by
  rw [av_tab t h1, av_int _ s h2.1, av_int _ u h5.1, av_int _ c h6.1, av_bytes n f h3]
  exact law13 (fun i => by have := h1 i; omega) (fun i => by have := h3 i; omega) (by omega) (by omega) (by omega)
theorem row14 (n : Nat) (f : Nat → Int) (c : Int) (d : Nat → Int) (h3 : ∀ i, 0 ≤ f i ∧ f i ≤ 255) (h6 : 0 ≤ c ∧ c ≤ 65535) (h7 : ∀ i, 0 ≤ d i ∧ d i ≤ 255) : CallIn Try.prog 14 [Sh.av (.sl (.int .u8)) (n, f), Sh.av (.int .u16) c, Sh.av (.arr 4 (.int .u8)) d] [] ⟨.ret, [B true], []⟩ := by
  have e : Sh.av (.arr 4 (.int .u8)) d = By4 (d 0).toNat (d 1).toNat (d 2).toNat (d 3).toNat := by
    show AV.agg [.p (.v (.int .u8 (d 0))), .p (.v (.int .u8 (d 1))), .p (.v (.int .u8 (d 2))), .p (.v (.int .u8 (d 3)))] = AV.agg [.p (.v (.int .u8 _)), .p (.v (.int .u8 _)), .p (.v (.int .u8 _)), .p (.v (.int .u8 _))]
    rw [Int.toNat_of_nonneg (h7 0).1, Int.toNat_of_nonneg (h7 1).1, Int.toNat_of_nonneg (h7 2).1, Int.toNat_of_nonneg (h7 3).1]
  rw [e, av_int _ c h6.1, av_bytes n f h3]
  have a0 := h7 0; have a1 := h7 1; have a2 := h7 2; have a3 := h7 3
  exact law14 (fun i => by have := h3 i; omega) (by omega) (by omega) (by omega) (by omega) (by omega)
end Crc
end Go.Fx
