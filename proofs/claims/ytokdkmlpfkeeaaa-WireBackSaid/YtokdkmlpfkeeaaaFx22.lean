/- How one proves with the small interpreter: who is asked is what is so. -/
import Derived.Test.YtokdkmlpfkeeaaaFx21
set_option linter.unusedVariables false
namespace Go.Fx

open Classical in
/-- A statement as an answer. -/
noncomputable def asrt (p : Prop) : Option Unit := if p then some () else none
theorem asrt_iff {p : Prop} : asrt p = some () ↔ p := by
  unfold asrt
  split <;> simp_all
/-- It is this. -/
noncomputable def is (a : Ans) (b : Ans) : Option Unit := asrt (b = a)
/-- What is so answers. -/
noncomputable def askG (P : Program) (C : Cfg) : Orc Unit := fun q k => asrt (∃ a, QOk P C q a ∧ k a = some ())

theorem honest_askG (P : Program) (C : Cfg) : Honest P C (askG P C) := fun q k r h => by
  cases r
  exact asrt_iff.1 h

theorem br_t {α : Type} {x y r : Option α} (h : x = r) : br true x y = r := h
theorem br_f {α : Type} {x y r : Option α} (h : y = r) : br false x y = r := h
theorem br_s {q : Bool} {α : Type} {x y r : Option α} (h1 : q = true → x = r) (h2 : q = false → y = r) : br q x y = r := by cases q; exact h2 rfl; exact h1 rfl
theorem chk_i {c : Prop} [Decidable c] {α : Type} {x r : Option α} (hc : c) (h : x = r) : chk c x = r := by unfold chk; rw [if_pos hc]; exact h
theorem ask_i {P : Program} {C : Cfg} {q : Qry} {a : Ans} {k : Ans → Option Unit} (h : QOk P C q a) (hk : k a = some ()) : askG P C q k = some () := asrt_iff.2 ⟨a, h, hk⟩
theorem is_i {a b : Ans} (h : b = a) : is a b = some () := asrt_iff.2 h

theorem call_i {P : Program} {C : Cfg} (hP : progOk P = true) {f : FuncId} {args : List AV} {h : Hp} {a : Ans} (hk : evQ C P (askG P C) (.call f args h) (is a) = some ()) : QOk P C (.call f args h) a := by
  obtain ⟨fn, c, h1, h2, h3⟩ := callIn_sound hP (honest_askG P C) hk (target := a) (fun b hb => by rw [asrt_iff.1 hb]; exact CallLe.refl _)
  have hn : namesOk P = true := by
    unfold progOk at hP
    simp only [Bool.and_eq_true] at hP
    exact hP.1.1.2
  exact h3.ok hn h1 h2
theorem callIn_i {P : Program} {C : Cfg} (hP : progOk P = true) {f : FuncId} {args : List AV} {h : Hp} {a : Ans} (hk : evQ C P (askG P C) (.call f args h) (is a) = some ()) : CallIn P f args h a :=
  let ⟨_, _, _, _, h3⟩ := callIn_sound hP (honest_askG P C) hk (target := a) (fun b hb => by rw [asrt_iff.1 hb]; exact CallLe.refl _)
  h3
theorem loop_i {P : Program} {C : Cfg} (hP : progOk P = true) {f m : Nat} {p : List Nat} {vals : List AV} {h : Hp} {a : Ans} (hk : evQ C P (askG P C) (.loop f m p vals h) (is a) = some ()) : QOk P C (.loop f m p vals h) a :=
  loopIn_sound hP (honest_askG P C) hk (fun b hb => by rw [asrt_iff.1 hb]; exact Weak.refl _)

/-- It is at least this. -/
noncomputable def isW (a : Ans) (b : Ans) : Option Unit := asrt (Weak b a)
theorem callW_i {P : Program} {C : Cfg} (hP : progOk P = true) {f : FuncId} {args : List AV} {h : Hp} {a : Ans} (hk : evQ C P (askG P C) (.call f args h) (isW a) = some ()) : CallIn P f args h a :=
  let ⟨_, _, _, _, h3⟩ := callIn_sound hP (honest_askG P C) hk (target := a) (fun b hb => (asrt_iff.1 hb).call)
  h3
theorem askC_i {P : Program} {C : Cfg} (hP : progOk P = true) {f : FuncId} {args : List AV} {h : Hp} {a : Ans} {E : Ans → Prop} (hE : ∀ b, E b → CallLe P b a) (hk : evQ C P (askG P C) (.call f args h) (fun b => asrt (E b)) = some ()) : QOk P C (.call f args h) a := by
  obtain ⟨fn, c, h1, h2, h3⟩ := callIn_sound hP (honest_askG P C) hk (target := a) (fun b hb => hE b (asrt_iff.1 hb))
  have hn : namesOk P = true := by
    unfold progOk at hP
    simp only [Bool.and_eq_true] at hP
    exact hP.1.1.2
  exact h3.ok hn h1 h2
theorem askW_i {P : Program} {C : Cfg} (hP : progOk P = true) {q : Qry} {a : Ans} (hk : evQ C P (askG P C) q (isW a) = some ()) : QOk P C q a := by
  cases q with
  | call f args h =>
    obtain ⟨fn, c, h1, h2, h3⟩ := callIn_sound hP (honest_askG P C) hk (target := a) (fun b hb => (asrt_iff.1 hb).call)
    have hn : namesOk P = true := by
      unfold progOk at hP
      simp only [Bool.and_eq_true] at hP
      exact hP.1.1.2
    exact h3.ok hn h1 h2
  | loop f m p vals h => exact loopIn_sound hP (honest_askG P C) hk (fun b hb => asrt_iff.1 hb)
/-- The interpreter itself, where all is known. -/
noncomputable def runA (C : Cfg) (P : Program) : Nat → Qry → Option Ans
  | 0, _ => none
  | n + 1, q => evQ C P (fun q k => (runA C P n q).bind k) q some
theorem runA_ok {P : Program} {C : Cfg} (hP : progOk P = true) : ∀ (n : Nat) (q : Qry) (a : Ans), runA C P n q = some a → QOk P C q a
  | 0, q, a, h => by cases h
  | n + 1, q, a, h => by
    have hon : Honest P C (α := Ans) (fun q k => (runA C P n q).bind k) := by
      intro q k r h
      cases hq : runA C P n q with
      | none => simp [hq] at h
      | some b => simp [hq] at h; exact ⟨b, runA_ok hP n q b hq, h⟩
    have hn : namesOk P = true := by
      have := hP
      unfold progOk at this
      simp only [Bool.and_eq_true] at this
      exact this.1.1.2
    cases q with
    | call f args hh =>
      obtain ⟨fn, c, h1, h2, h3⟩ := callIn_sound hP hon h (target := a) (fun b hb => by injection hb with hb; rw [hb]; exact CallLe.refl _)
      exact h3.ok hn h1 h2
    | loop f m p vals hh => exact loopIn_sound hP hon h (fun b hb => by injection hb with hb; rw [hb]; exact Weak.refl _)

end Go.Fx
