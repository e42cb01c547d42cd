/- Short names and small facts for the laws' own texts. -/
import Derived.Test.YtokdkmlpfkeeaaaFxRow
import Derived.IntWalk
import Derived.KernelRfl
set_option linter.unusedVariables false
namespace Go.Fx

abbrev I (n : Int) : AV := .c (.p (.v (.int .i64 n)))
abbrev B (n : Bool) : AV := .c (.p (.v (.bool n)))
abbrev Str (s : ByteArray) : AV := .c (.p (.v (.string s)))
abbrev U8 (n : Int) : AV := .c (.p (.v (.int .u8 n)))
abbrev U16 (n : Int) : AV := .c (.p (.v (.int .u16 n)))
abbrev U32 (n : Int) : AV := .c (.p (.v (.int .u32 n)))
abbrev U64 (n : Int) : AV := .c (.p (.v (.int .u64 n)))
abbrev Sl (n : Nat) (f : Nat → List PV) : AV := .c (.p (.sl n f))
abbrev i64 (n : Int) : CV := .p (.v (.int .i64 n))
def C0 : Cfg := ⟨fun _ => false, fun _ => false, fun _ _ => [], fun _ _ => []⟩
def sT : List AV → Option AV := fun _ => some (B true)

/-- What is kept at a loop: by its function and how deep it stands. -/
def keepTab : List (Nat × Nat × List Nat) → FuncId → List Nat → List Nat
  | [], _, _ => []
  | (f', n, k) :: l, f, p => match Nat.beq f f' && Nat.beq p.length n with
    | true => k
    | false => keepTab l f p
theorem ar {a b : AV} (h : a = b) : (⟨.ret, [a], []⟩ : Ans) = ⟨.ret, [b], []⟩ := by rw [h]
theorem ba_eq (m n : ByteArray) : (m == n) = true ↔ m = n := by
  cases m with
  | mk a =>
    cases n with
    | mk b =>
      have e : ((⟨a⟩ : ByteArray) == ⟨b⟩) = (a == b) := rfl
      rw [e]
      simp
instance : LawfulBEq ByteArray where
  eq_of_beq h := (ba_eq _ _).1 h
  rfl := (ba_eq _ _).2 rfl
theorem wf_i64 {n : Int} (h : (Lit.int .i64 n).wf = true) : -9223372036854775808 ≤ n ∧ n ≤ 9223372036854775807 := by
  simp only [Lit.wf, Bool.and_eq_true, decide_eq_true_eq] at h; exact h
theorem wf_i32 {n : Int} (h : (Lit.int .i32 n).wf = true) : -2147483648 ≤ n ∧ n ≤ 2147483647 := by
  simp only [Lit.wf, Bool.and_eq_true, decide_eq_true_eq] at h; exact h
theorem wf_i16 {n : Int} (h : (Lit.int .i16 n).wf = true) : -32768 ≤ n ∧ n ≤ 32767 := by
  simp only [Lit.wf, Bool.and_eq_true, decide_eq_true_eq] at h; exact h
theorem wf_u8 {n : Int} (h : (Lit.int .u8 n).wf = true) : 0 ≤ n ∧ n ≤ 255 := by
  simp only [Lit.wf, Bool.and_eq_true, decide_eq_true_eq] at h; exact h
theorem wf_u16 {n : Int} (h : (Lit.int .u16 n).wf = true) : 0 ≤ n ∧ n ≤ 65535 := by
  simp only [Lit.wf, Bool.and_eq_true, decide_eq_true_eq] at h; exact h
theorem wf_u32 {n : Int} (h : (Lit.int .u32 n).wf = true) : 0 ≤ n ∧ n ≤ 4294967295 := by
  simp only [Lit.wf, Bool.and_eq_true, decide_eq_true_eq] at h; exact h
theorem wf_u64 {n : Int} (h : (Lit.int .u64 n).wf = true) : 0 ≤ n ∧ n ≤ 18446744073709551615 := by
  simp only [Lit.wf, Bool.and_eq_true, decide_eq_true_eq] at h; exact h
theorem w64 {n : Int} (h : -9223372036854775808 ≤ n ∧ n ≤ 9223372036854775807) : IntKind.i64.wrap n = n := IntWalk.i64_in n h
end Go.Fx
