/- Trees followed by a script: what is left to show is a row of small statements. -/
import Derived.Test.YtokdkmlpfkeeaaaFxT2
set_option linter.unusedVariables false
namespace Go.Fx

/-- Which way to go: e: the end; l: as the condition says; b: both ways; t, f: this way alone; c: what must hold; d: what does; a: what is asked; i: what is asked, looked into; g: either way. -/
inductive An where
  | e
  | l (a : An)
  | b (x y : An)
  | t (a : An)
  | f (a : An)
  | c (a : An)
  | d (a : An)
  | a (a : An)
  | i (a : An)
  | g (x y : An)

/-- What is left of a tree. -/
inductive Sc where
  | fail
  | done (a : Ans)
  | br (q : Bool) (x y : Sc)
  | yes (q : Bool) (x : Sc)
  | no (q : Bool) (x : Sc)
  | chk (c : Prop) (x : Sc)
  | ask (q : Qry) (a : Ans) (x : Sc)
  | both (x y : Sc)

/-- An answer that may be one or another. -/
inductive Sa where
  | one (a : Ans)
  | br (q : Bool) (x y : Sa)
def Sa.val : Sa → Ans
  | .one a => a
  | .br q x y => bif q then x.val else y.val
def Sa.go (k : Ans → Tr) : Sa → Tr
  | .one a => k a
  | .br q x y => .br q (x.go k) (y.go k)

/-- One tree behind another. -/
def Tr.bind (k : Ans → Tr) : Tr → Tr
  | .fail => .fail
  | .done a => k a
  | .br q x y => .br q (x.bind k) (y.bind k)
  | .chk c d x => .chk c d (x.bind k)
  | .ask q j => .ask q fun a => (j a).bind k
  | .both _ _ => .fail

noncomputable def fol (C : Cfg) (P : Program) (S : Qry → Option Sa) (n : An) : Tr → Sc :=
  An.rec (motive := fun _ => Tr → Sc)
    (fun t => match t with | .done a => .done a | _ => .fail)
    (fun _ ih t => match t with
      | .br q x y => match q with
        | true => ih x
        | false => ih y
      | _ => .fail)
    (fun _ _ ix iy t => match t with
      | .br q x y => .br q (ix x) (iy y)
      | _ => .fail)
    (fun _ ih t => match t with
      | .br q x _ => .yes q (ih x)
      | _ => .fail)
    (fun _ ih t => match t with
      | .br q _ x => .no q (ih x)
      | _ => .fail)
    (fun _ ih t => match t with
      | .chk c _ x => .chk c (ih x)
      | _ => .fail)
    (fun _ ih t => match t with
      | .chk _ d x => match d with
        | .isTrue _ => ih x
        | .isFalse _ => .fail
      | _ => .fail)
    (fun _ ih t => match t with
      | .ask q k => match S q with
        | some s => .ask q s.val (ih (s.go k))
        | none => .fail
      | _ => .fail)
    (fun _ ih t => match t with
      | .ask q k => ih ((T.evQ C P q .done).bind k)
      | _ => .fail)
    (fun _ _ ix iy t => match t with
      | .both x y => .both (ix x) (iy y)
      | _ => .fail) n

/-- What calls and loops answer, by their numbers. -/
abbrev Spec := List (Nat × (List AV → Option AV))
abbrev LSpec := List (Nat × (List Nat → List AV → Hp → Option Sa))
def Spec.find : Spec → Nat → List AV → Option AV
  | [], _, _ => none
  | (k, g) :: l, f, args => match Nat.beq f k with
    | true => g args
    | false => Spec.find l f args
def LSpec.find : LSpec → Nat → List Nat → List AV → Hp → Option Sa
  | [], _, _, _, _ => none
  | (k, g) :: l, f, p, vals, h => match Nat.beq f k with
    | true => g p vals h
    | false => LSpec.find l f p vals h
def spec (l : Spec) (m : LSpec) (q : Qry) : Option Sa := match q with
  | .call f args _ => match Spec.find l f args with
    | some v => some (.one ⟨.ret, [v], []⟩)
    | none => none
  | .loop f _ p vals h => LSpec.find m f p vals h

section
variable (P : Program) (C : Cfg) (E : Ans → Prop)
/-- What is left to show. -/
def Sc.Ok : Sc → Prop
  | .fail => False
  | .done a => E a
  | .br q x y => (q = true → x.Ok) ∧ (q = false → y.Ok)
  | .yes q x => q = true ∧ x.Ok
  | .no q x => q = false ∧ x.Ok
  | .chk c x => c ∧ x.Ok
  | .ask q a x => QOk P C q a ∧ x.Ok
  | .both x y => x.Ok ∧ y.Ok
variable {P C E}
theorem go_run {α : Type} {O : Orc α} {K : Ans → Option α} {k : Ans → Tr} {r : α} : ∀ {s : Sa}, (s.go k).run O K = some r → (k s.val).run O K = some r
  | .one a, h => h
  | .br true x y, h => go_run (s := x) h
  | .br false x y, h => go_run (s := y) h
theorem ask_inv {q : Qry} {k : Ans → Option Unit} (h : askG P C q k = some ()) : ∃ a, QOk P C q a ∧ k a = some () := by
  unfold askG at h
  exact asrt_iff.1 h
theorem run_pick {K : Ans → Option Unit} {k : Ans → Tr} : ∀ (t : Tr), (t.bind k).run (askG P C) K = some () → ∃ a, (k a).run (askG P C) K = some () ∧ t.run (askG P C) (is a) = some ()
  | .fail, h => by cases h
  | .done a, h => ⟨a, h, is_i rfl⟩
  | .br true x y, h => run_pick x h
  | .br false x y, h => run_pick y h
  | .chk c d x, h => by
    simp only [Tr.bind, Tr.run] at h ⊢
    split at h
    · rename_i hc
      obtain ⟨a, h1, h2⟩ := run_pick x h
      exact ⟨a, h1, by rw [if_pos hc]; exact h2⟩
    · cases h
  | .ask q j, h => by
    obtain ⟨b, h1, h2⟩ := ask_inv (show askG P C q (fun a => ((j a).bind k).run (askG P C) K) = some () from h)
    obtain ⟨a, h3, h4⟩ := run_pick (j b) h2
    exact ⟨a, h3, ask_i h1 h4⟩
  | .both x y, h => by cases h
theorem mono_askG {u : Unit} : Mono (askG P C) u := by
  intro q k k' hk h
  cases u
  obtain ⟨a, h1, h2⟩ := ask_inv h
  exact ask_i h1 (hk a h2)
theorem ev_ok (hP : progOk P = true) {q : Qry} {a : Ans} (h : (T.evQ C P q .done).run (askG P C) (is a) = some ()) : QOk P C q a := by
  have h' := evQ_le (K := is a) (k := Tr.done) (k' := is a) mono_askG (fun a h => h) h
  cases q with
  | call f args h2 => exact call_i hP h'
  | loop f m p vals h2 => exact loop_i hP h'
theorem fol_ok (hP : progOk P = true) (S : Qry → Option Sa) : ∀ (n : An) (t : Tr), (fol C P S n t).Ok P C E → t.run (askG P C) (fun b => asrt (E b)) = some ()
  | .e, t, h => by
    cases t with
    | done a => exact asrt_iff.2 h
    | _ => exact h.elim
  | .l n, t, h => by
    cases t with
    | br q x y =>
      cases q with
      | true => exact fol_ok hP S n x h
      | false => exact fol_ok hP S n y h
    | _ => exact h.elim
  | .b n m, t, h => by
    cases t with
    | br q x y =>
      rw [run_br]
      exact br_s (fun e => fol_ok hP S n x (h.1 e)) (fun e => fol_ok hP S m y (h.2 e))
    | _ => exact h.elim
  | .t n, t, h => by
    cases t with
    | br q x y =>
      obtain ⟨e, h⟩ := h
      rw [run_br, e]
      exact br_t (fol_ok hP S n x h)
    | _ => exact h.elim
  | .f n, t, h => by
    cases t with
    | br q x y =>
      obtain ⟨e, h⟩ := h
      rw [run_br, e]
      exact br_f (fol_ok hP S n y h)
    | _ => exact h.elim
  | .c n, t, h => by
    cases t with
    | chk c d x =>
      simp only [Tr.run]
      rw [if_pos h.1]
      exact fol_ok hP S n x h.2
    | _ => exact h.elim
  | .d n, t, h => by
    cases t with
    | chk c d x =>
      cases d with
      | isTrue hc =>
        simp only [Tr.run]
        rw [if_pos hc]
        exact fol_ok hP S n x h
      | isFalse hc => exact h.elim
    | _ => exact h.elim
  | .a n, t, h => by
    cases t with
    | ask q k =>
      have e : fol C P S (.a n) (.ask q k) = match S q with | some s => .ask q s.val (fol C P S n (s.go k)) | none => .fail := rfl
      rw [e] at h
      cases hs : S q with
      | none => rw [hs] at h; exact h.elim
      | some a =>
        rw [hs] at h
        exact ask_i h.1 (go_run (fol_ok hP S n (a.go k) h.2))
    | _ => exact h.elim
  | .i n, t, h => by
    cases t with
    | ask q k =>
      have h1 := fol_ok hP S n ((T.evQ C P q .done).bind k) h
      obtain ⟨a, h2, h3⟩ := run_pick _ h1
      exact ask_i (ev_ok hP h3) h2
    | _ => exact h.elim
  | .g n m, t, h => by
    cases t with
    | both x y =>
      rw [run_both]
      unfold both
      rw [fol_ok hP S n x h.1, fol_ok hP S m y h.2, if_pos rfl]
    | _ => exact h.elim

theorem tree_ev (hP : progOk P = true) {S : Qry → Option Sa} {n : An} {q : Qry} {s : Sc} (h : fol C P S n (T.evQ C P q .done) = s) (hs : s.Ok P C E) : evQ C P (askG P C) q (fun b => asrt (E b)) = some () := by
  subst h
  exact evQ_le (K := fun b => asrt (E b)) (k := Tr.done) (k' := fun b => asrt (E b)) mono_askG (fun a h => h) (fol_ok hP S n _ hs)

/-- A call, or a loop. -/
theorem tree_i (hP : progOk P = true) {r : Ans} {S : Qry → Option Sa} {n : An} {q : Qry} {s : Sc} (h : fol C P S n (T.evQ C P q .done) = s) (hs : s.Ok P C (· = r)) : QOk P C q r := by
  cases q with
  | call f args h' => exact call_i hP (tree_ev hP h hs)
  | loop f m p vals h' => exact loop_i hP (tree_ev hP h hs)
theorem tree_w (hP : progOk P = true) {r : Ans} {S : Qry → Option Sa} {n : An} {q : Qry} {s : Sc} (h : fol C P S n (T.evQ C P q .done) = s) (hs : s.Ok P C (Weak · r)) : QOk P C q r :=
  askW_i hP (tree_ev hP h hs)
/-- A call whose ends are each at least what is said. -/
theorem tree_c (hP : progOk P = true) {r : Ans} {S : Qry → Option Sa} {n : An} {f : FuncId} {args : List AV} {h' : Hp} {s : Sc} (h : fol C P S n (T.evQ C P (.call f args h') .done) = s) (hs : s.Ok P C (CallLe P · r)) : QOk P C (.call f args h') r :=
  askC_i hP (fun _ hb => hb) (tree_ev hP h hs)
theorem treeIn_i (hP : progOk P = true) {r : Ans} {S : Qry → Option Sa} {n : An} {f : FuncId} {args : List AV} {h' : Hp} {s : Sc} (h : fol C P S n (T.evQ C P (.call f args h') .done) = s) (hs : s.Ok P C (· = r)) : CallIn P f args h' r :=
  callIn_i hP (tree_ev hP h hs)
end

/-! ### Slices that are the same as far as they go -/
def PLe (x y : PV) : Prop := ∀ (M : Mem) (v : Value), RepP M v x → RepP M v y
def CLe (x y : CV) : Prop := ∀ (M : Mem) (φ : Phi) (v : Value), RepC M φ v x → RepC M φ v y
def ALe (x y : AV) : Prop := ∀ (M : Mem) (φ : Phi) (v : Value), RepA M φ v x → RepA M φ v y
theorem PLe.sl {n : Nat} {f g : Nat → List PV} (h : ∀ i, i < n → f i = g i) : PLe (.sl n f) (.sl n g) := by
  intro M v hv
  cases hv with
  | sl a cap b o sz c hn ha hl hM hc => exact .sl a cap b o sz c hn ha (fun i hi => by rw [← h i hi]; exact hl i hi) hM (fun i j x hi hx => hc i j x hi (by rw [h i hi]; exact hx))
theorem CLe.p {x y : PV} (h : PLe x y) : CLe (.p x) (.p y) := by
  intro M φ v hv
  cases hv with
  | p hv => exact .p (h _ _ hv)
theorem ALe.c {x y : CV} (h : CLe x y) : ALe (.c x) (.c y) := by
  intro M φ v hv
  cases hv with
  | c hv => exact .c (h _ _ _ hv)
theorem ALe.refl (x : AV) : ALe x x := fun _ _ _ h => h
theorem CLe.refl (x : CV) : CLe x x := fun _ _ _ h => h
theorem ALe.sl {n : Nat} {f g : Nat → List PV} (h : ∀ i, i < n → f i = g i) : ALe (.c (.p (.sl n f))) (.c (.p (.sl n g))) := ALe.c (CLe.p (PLe.sl h))
theorem ALe.agg {xs ys : List CV} (hl : xs.length = ys.length) (h : ∀ (j : Nat) (x y : CV), xs[j]? = some x → ys[j]? = some y → CLe x y) : ALe (.agg xs) (.agg ys) := by
  intro M φ v hv
  cases hv with
  | agg hv =>
    refine .agg ⟨hv.1.trans hl, fun j u y hu hy => ?_⟩
    have hj : j < xs.length := by rw [hl]; exact (List.getElem?_eq_some_iff.1 hy).1
    exact h j _ y (List.getElem?_eq_getElem hj) hy _ _ _ (hv.2 j u _ hu (List.getElem?_eq_getElem hj))
theorem ALe.tup {xs ys : List AV} (hl : xs.length = ys.length) (h : ∀ (j : Nat) (x y : AV), xs[j]? = some x → ys[j]? = some y → ALe x y) : ALe (.tup xs) (.tup ys) := by
  intro M φ v hv
  cases hv with
  | tup hl' hh =>
    refine .tup (hl'.trans hl) fun j u y hu hy => ?_
    have hj : j < xs.length := by rw [hl]; exact (List.getElem?_eq_some_iff.1 hy).1
    exact h j _ y (List.getElem?_eq_getElem hj) hy _ _ _ (hh j u _ hu (List.getElem?_eq_getElem hj))
theorem Weak.ret {x y : AV} (h : ALe x y) : Weak ⟨.ret, [x], []⟩ ⟨.ret, [y], []⟩ :=
  ⟨rfl, rfl, fun h => h, rfl, fun {M φ j a b v} h1 h2 hv => by
    cases j with
    | zero => simp at h1 h2; subst h1; subst h2; exact h _ _ _ hv
    | succ j => simp at h1⟩
/-- Lists of values, one by one. -/
inductive ALes : List AV → List AV → Prop
  | nil : ALes [] []
  | cons {x y : AV} {xs ys : List AV} (h : ALe x y) (k : ALes xs ys) : ALes (x :: xs) (y :: ys)
theorem ALes.len {xs ys : List AV} (h : ALes xs ys) : xs.length = ys.length := by induction h with | nil => rfl | cons h k ih => simp [ih]
theorem ALes.get {xs ys : List AV} (h : ALes xs ys) : ∀ (j : Nat) (x y : AV), xs[j]? = some x → ys[j]? = some y → ALe x y := by
  induction h with
  | nil => intro j x y h; simp at h
  | cons h k ih =>
    intro j x y h1 h2
    cases j with
    | zero => simp at h1 h2; subst h1; subst h2; exact h
    | succ j => exact ih j x y (by simpa using h1) (by simpa using h2)
inductive CLes : List CV → List CV → Prop
  | nil : CLes [] []
  | cons {x y : CV} {xs ys : List CV} (h : CLe x y) (k : CLes xs ys) : CLes (x :: xs) (y :: ys)
theorem CLes.len {xs ys : List CV} (h : CLes xs ys) : xs.length = ys.length := by induction h with | nil => rfl | cons h k ih => simp [ih]
theorem CLes.get {xs ys : List CV} (h : CLes xs ys) : ∀ (j : Nat) (x y : CV), xs[j]? = some x → ys[j]? = some y → CLe x y := by
  induction h with
  | nil => intro j x y h; simp at h
  | cons h k ih =>
    intro j x y h1 h2
    cases j with
    | zero => simp at h1 h2; subst h1; subst h2; exact h
    | succ j => exact ih j x y (by simpa using h1) (by simpa using h2)
theorem ALe.tups {xs ys : List AV} (h : ALes xs ys) : ALe (.tup xs) (.tup ys) := ALe.tup h.len h.get
theorem ALe.aggs {xs ys : List CV} (h : CLes xs ys) : ALe (.agg xs) (.agg ys) := ALe.agg h.len h.get
theorem ALes.rep {xs ys : List AV} (h : ALes xs ys) {M : Mem} {φ : Phi} {vs : List Value} (hv : RepL M φ vs xs) : RepL M φ vs ys := by
  refine ⟨hv.1.trans h.len, fun j v y hj hy => ?_⟩
  have hlt : j < xs.length := by rw [h.len]; exact (List.getElem?_eq_some_iff.1 hy).1
  exact h.get j _ y (List.getElem?_eq_getElem hlt) hy _ _ _ (hv.2 j v _ hj (List.getElem?_eq_getElem hlt))
/-- Arguments that say more. -/
theorem QOk.arg {P : Program} {C : Cfg} {f : FuncId} {args args' : List AV} {h : Hp} {a : Ans} (hq : QOk P C (.call f args h) a) (k : ALes args' args) : QOk P C (.call f args' h) a :=
  fun vs w M φ hR hV => hq vs w M φ hR (k.rep hV)
theorem Weak.mk' {e : Ex} {xs ys : List AV} {h : Hp} (k : ALes xs ys) : Weak ⟨e, xs, h⟩ ⟨e, ys, h⟩ := ⟨rfl, rfl, fun h => h, k.len, fun h1 h2 hv => k.get _ _ _ h1 h2 _ _ _ hv⟩
end Go.Fx
