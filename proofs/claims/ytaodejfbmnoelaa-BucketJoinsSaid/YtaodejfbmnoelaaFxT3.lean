/- Trees followed by a script: what is left to show is a row of small statements. -/
import Derived.Test.YtaodejfbmnoelaaFxT2
set_option linter.unusedVariables false
namespace Go.Fx

/-- Which way to go: e: the end; l: as the condition says; b: both ways; t, f: this way alone; c: what must hold; d: what does; a: what is asked. -/
inductive An where
  | e
  | l (a : An)
  | b (x y : An)
  | t (a : An)
  | f (a : An)
  | c (a : An)
  | d (a : An)
  | a (a : An)

/-- What is left of a tree. -/
inductive Sc where
  | fail
  | done (a : Ans)
  | br (q : Bool) (x y : Sc)
  | yes (q : Bool) (x : Sc)
  | no (q : Bool) (x : Sc)
  | chk (c : Prop) (x : Sc)
  | ask (q : Qry) (a : Ans) (x : Sc)

noncomputable def fol (S : Qry → Option Ans) (n : An) : Tr → Sc :=
  An.rec (motive := fun _ => Tr → Sc)
    (fun t => match t with | .done a => .done a | _ => .fail)
    (fun _ ih t => match t with
      | .br q x y => match q with
        | true => ih x
        | false => ih y
      | _ => .fail)
    (fun _ _ ix iy t => match t with
      | .br q x y => .br q (ix x) (iy y)
      | _ => .fail)
    (fun _ ih t => match t with
      | .br q x _ => .yes q (ih x)
      | _ => .fail)
    (fun _ ih t => match t with
      | .br q _ x => .no q (ih x)
      | _ => .fail)
    (fun _ ih t => match t with
      | .chk c _ x => .chk c (ih x)
      | _ => .fail)
    (fun _ ih t => match t with
      | .chk _ d x => match d with
        | .isTrue _ => ih x
        | .isFalse _ => .fail
      | _ => .fail)
    (fun _ ih t => match t with
      | .ask q k => match S q with
        | some a => .ask q a (ih (k a))
        | none => .fail
      | _ => .fail) n

/-- What calls and loops answer, by their numbers. -/
abbrev Spec := List (Nat × (List AV → Option AV))
abbrev LSpec := List (Nat × (List Nat → List AV → Hp → Option Ans))
def Spec.find : Spec → Nat → List AV → Option AV
  | [], _, _ => none
  | (k, g) :: l, f, args => match Nat.beq f k with
    | true => g args
    | false => Spec.find l f args
def LSpec.find : LSpec → Nat → List Nat → List AV → Hp → Option Ans
  | [], _, _, _, _ => none
  | (k, g) :: l, f, p, vals, h => match Nat.beq f k with
    | true => g p vals h
    | false => LSpec.find l f p vals h
def spec (l : Spec) (m : LSpec) (q : Qry) : Option Ans := match q with
  | .call f args _ => match Spec.find l f args with
    | some v => some ⟨.ret, [v], []⟩
    | none => none
  | .loop f _ p vals h => LSpec.find m f p vals h

section
variable (P : Program) (C : Cfg) (r : Ans)
/-- What is left to show. -/
def Sc.Ok : Sc → Prop
  | .fail => False
  | .done a => a = r
  | .br q x y => (q = true → x.Ok) ∧ (q = false → y.Ok)
  | .yes q x => q = true ∧ x.Ok
  | .no q x => q = false ∧ x.Ok
  | .chk c x => c ∧ x.Ok
  | .ask q a x => QOk P C q a ∧ x.Ok
variable {P C r}
theorem ok_done {a : Ans} (h : a = r) : (Sc.done a).Ok P C r := h
theorem ok_br {q : Bool} {x y : Sc} (hx : q = true → x.Ok P C r) (hy : q = false → y.Ok P C r) : (Sc.br q x y).Ok P C r := ⟨hx, hy⟩
theorem ok_yes {q : Bool} {x : Sc} (h : q = true) (hx : x.Ok P C r) : (Sc.yes q x).Ok P C r := ⟨h, hx⟩
theorem ok_no {q : Bool} {x : Sc} (h : q = false) (hx : x.Ok P C r) : (Sc.no q x).Ok P C r := ⟨h, hx⟩
theorem ok_chk {c : Prop} {x : Sc} (h : c) (hx : x.Ok P C r) : (Sc.chk c x).Ok P C r := ⟨h, hx⟩
theorem ok_ask {q : Qry} {a : Ans} {x : Sc} (h : QOk P C q a) (hx : x.Ok P C r) : (Sc.ask q a x).Ok P C r := ⟨h, hx⟩

theorem fol_ok (S : Qry → Option Ans) : ∀ (n : An) (t : Tr), (fol S n t).Ok P C r → t.run (askG P C) (is r) = some ()
  | .e, t, h => by
    cases t with
    | done a => exact is_i h
    | _ => exact h.elim
  | .l n, t, h => by
    cases t with
    | br q x y =>
      cases q with
      | true => exact fol_ok S n x h
      | false => exact fol_ok S n y h
    | _ => exact h.elim
  | .b n m, t, h => by
    cases t with
    | br q x y =>
      rw [run_br]
      exact br_s (fun e => fol_ok S n x (h.1 e)) (fun e => fol_ok S m y (h.2 e))
    | _ => exact h.elim
  | .t n, t, h => by
    cases t with
    | br q x y =>
      obtain ⟨e, h⟩ := h
      rw [run_br, e]
      exact br_t (fol_ok S n x h)
    | _ => exact h.elim
  | .f n, t, h => by
    cases t with
    | br q x y =>
      obtain ⟨e, h⟩ := h
      rw [run_br, e]
      exact br_f (fol_ok S n y h)
    | _ => exact h.elim
  | .c n, t, h => by
    cases t with
    | chk c d x =>
      simp only [Tr.run]
      rw [if_pos h.1]
      exact fol_ok S n x h.2
    | _ => exact h.elim
  | .d n, t, h => by
    cases t with
    | chk c d x =>
      cases d with
      | isTrue hc =>
        simp only [Tr.run]
        rw [if_pos hc]
        exact fol_ok S n x h
      | isFalse hc => exact h.elim
    | _ => exact h.elim
  | .a n, t, h => by
    cases t with
    | ask q k =>
      have e : fol S (.a n) (.ask q k) = match S q with | some a => .ask q a (fol S n (k a)) | none => .fail := rfl
      rw [e] at h
      cases hs : S q with
      | none => rw [hs] at h; exact h.elim
      | some a =>
        rw [hs] at h
        exact ask_i h.1 (fol_ok S n (k a) h.2)
    | _ => exact h.elim

theorem mono_askG {u : Unit} : Mono (askG P C) u := by
  intro q k k' hk h
  cases u
  unfold askG at h ⊢
  obtain ⟨a, h1, h2⟩ := asrt_iff.1 h
  exact asrt_iff.2 ⟨a, h1, hk a h2⟩

theorem tree_ev {S : Qry → Option Ans} {n : An} {q : Qry} {s : Sc} (h : fol S n (T.evQ C P q .done) = s) (hs : s.Ok P C r) : evQ C P (askG P C) q (is r) = some () := by
  subst h
  exact evQ_le (K := is r) (k := Tr.done) (k' := is r) mono_askG (fun a h => h) (fol_ok S n _ hs)

/-- A call, or a loop. -/
theorem tree_i (hP : progOk P = true) {S : Qry → Option Ans} {n : An} {q : Qry} {s : Sc} (h : fol S n (T.evQ C P q .done) = s) (hs : s.Ok P C r) : QOk P C q r := by
  cases q with
  | call f args h' => exact call_i hP (tree_ev h hs)
  | loop f m p vals h' => exact loop_i hP (tree_ev h hs)
theorem treeIn_i (hP : progOk P = true) {S : Qry → Option Ans} {n : An} {f : FuncId} {args : List AV} {h' : Hp} {s : Sc} (h : fol S n (T.evQ C P (.call f args h') .done) = s) (hs : s.Ok P C r) : CallIn P f args h' r :=
  callIn_i hP (tree_ev h hs)
end
end Go.Fx
