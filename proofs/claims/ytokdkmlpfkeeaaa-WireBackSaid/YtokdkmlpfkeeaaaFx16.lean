/- What a call or a loop does, said over plain data; and one operation, a call or not, against the model. -/
import Derived.Test.YtokdkmlpfkeeaaaFx15
set_option linter.unusedVariables false
set_option linter.unusedSimpArgs false
namespace Go.Fx

/-- How a part of the code ends. -/
def ExR (M : Mem) : Ex → Exit → Prop
  | .normal, .normal => True
  | .exit i, .exit j => i = j
  | .ret, .ret => True
  | .pan x, .panic ch => ∃ v, ch = [{ v, recovered := false }] ∧ RepP M v x
  | _, _ => False
theorem ExR.mono {M M' : Mem} (hm : M.le M') {e : Ex} {e' : Exit} (h : ExR M e e') : ExR M' e e' := by
  cases e <;> cases e' <;> first | exact h | (obtain ⟨v, h1, h2⟩ := h; exact ⟨v, h1, h2.mono hm⟩)

/-- How a call ends. -/
def EndR (M : Mem) (φ : Phi) : Ex → List AV → Ending → Prop
  | .ret, [x], .returned v => RepA M φ v x
  | .pan x, [], .panicked ch => ∃ v, ch = [{ v, recovered := false }] ∧ RepP M v x
  | _, _, _ => False

/-- A function's call: entered, or done by the model itself. -/
def Does (P : Program) (f : FuncId) (args : Array Value) (w : World) (R : Ending → World → Prop) : Prop :=
  ((callFunc f args).run P w = .ok (.enter f args) w ∧ Calls P f args w R) ∨ ∃ v w', (callFunc f args).run P w = .ok (.value v) w' ∧ R (.returned v) w'

/-- What stands behind a call. -/
def CallR (P : Program) (M : Mem) (φ : Phi) (h : Hp) (w : World) (a : Ans) (e : Ending) (w' : World) : Prop :=
  ∃ M' φ', M.le M' ∧ φ.eqTo h.length φ' ∧ Rel P (Blocks h φ) w M M' φ' a.h w' ∧ h.length ≤ a.h.length ∧ EndR M' φ' a.e a.vals e
def CallOk (P : Program) (f : FuncId) (args : List AV) (h : Hp) (a : Ans) : Prop :=
  ∀ (vs : List Value) (w : World) (M : Mem) (φ : Phi), Rel P (Blocks h φ) w M M φ h w → RepL M φ vs args → Does P f vs.toArray w (CallR P M φ h w a)
/-- A function with a body. -/
def CallIn (P : Program) (f : FuncId) (args : List AV) (h : Hp) (a : Ans) : Prop :=
  ∀ (vs : List Value) (w : World) (M : Mem) (φ : Phi), Rel P (Blocks h φ) w M M φ h w → RepL M φ vs args → Calls P f vs.toArray w (CallR P M φ h w a)

/-- A loop, behind its first step. -/
def RoundWp (P : Program) (c : Code) (Q : Exit → Act → World → Prop) (a : Act) (w : World) : Prop :=
  ∀ (b : Frame) (k : List Item) (cs : List Frame), ∃ e a' w', Q e a' w' ∧ Arrives P (lone (b.at a (.code c :: .inLoop c :: k)) cs w) b k cs e a' w'
theorem wp_of_round {P : Program} {c : Code} {Q : Exit → Act → World → Prop} {a : Act} {w : World} (h : RoundWp P c Q a w) : (Code.loop c).wp P Q a w :=
  fun b k cs => let ⟨e, a', w', q, r⟩ := h b k cs; ⟨e, a', w', q, .of_steps (.one step_loop) r⟩
theorem round_unfold {P : Program} {c : Code} {Q : Exit → Act → World → Prop} {a : Act} {w : World} (h : c.wp P (Exit.then (RoundWp P c Q) Q) a w) : RoundWp P c Q a w := by
  intro b k cs
  obtain ⟨e, a₁, w₁, hq, harr⟩ := h b (.inLoop c :: k) cs
  cases e with
  | normal =>
    obtain ⟨e₂, a₂, w₂, hq₂, harr₂⟩ := hq b k cs
    exact ⟨e₂, a₂, w₂, hq₂, .of_steps (Steps.trans harr (.one step_inLoop)) harr₂⟩
  | exit id => exact ⟨_, a₁, w₁, hq, .pass (x := .inLoop c) rfl (fun _ _ => .inl (by simp)) harr⟩
  | goto l => exact ⟨_, a₁, w₁, hq, .pass (x := .inLoop c) rfl (fun _ _ => .inl (by simp)) harr⟩
  | ret => exact ⟨_, a₁, w₁, hq, .pass (x := .inLoop c) rfl (fun _ _ => .inl (by simp)) harr⟩
  | panic ch => exact ⟨_, a₁, w₁, hq, .pass (x := .inLoop c) rfl (fun _ _ => .inl (by simp)) harr⟩
  | outgrown => exact ⟨_, a₁, w₁, hq, .pass (x := .inLoop c) rfl (fun _ _ => .inl (by simp)) harr⟩
theorem RoundWp.mono {P : Program} {c : Code} {Q Q' : Exit → Act → World → Prop} {a : Act} {w : World} (h : RoundWp P c Q a w) (hq : ∀ e a w, Q e a w → Q' e a w) : RoundWp P c Q' a w :=
  fun b k cs => let ⟨e, a', w', q, r⟩ := h b k cs; ⟨e, a', w', hq _ _ _ q, r⟩

/-- A loop behind its first step, or a range over a function. -/
def PartWp (P : Program) : Code → (Exit → Act → World → Prop) → Act → World → Prop
  | .loop c, Q, a, w => RoundWp P c Q a w
  | d, Q, a, w => d.wp P Q a w
theorem PartWp.mono {P : Program} {Q Q' : Exit → Act → World → Prop} {a : Act} {w : World} : ∀ {d : Code}, PartWp P d Q a w → (∀ e a w, Q e a w → Q' e a w) → PartWp P d Q' a w
  | .loop c, h, hq => RoundWp.mono h hq
  | .skip, h, hq => wp_mono h hq
  | .region .., h, hq => wp_mono h hq
  | .seq .., h, hq => wp_mono h hq
  | .cond .., h, hq => wp_mono h hq
  | .block .., h, hq => wp_mono h hq
  | .rangeFunc .., h, hq => wp_mono h hq
  | .exit .., h, hq => wp_mono h hq
  | .scope .., h, hq => wp_mono h hq
  | .label .., h, hq => wp_mono h hq
  | .goto .., h, hq => wp_mono h hq
  | .ret, h, hq => wp_mono h hq
  | .refuse .., h, hq => wp_mono h hq
/-- What stands behind a loop. -/
def LoopR (P : Program) (S : Nat → Prop) (w0 : World) (M0 M : Mem) (φ : Phi) (N m : Nat) (ks : List Nat) (r : Ans) (e : Exit) (a' : Act) (w' : World) : Prop :=
  ∃ M' φ', M.le M' ∧ φ.eqTo m φ' ∧ Rel P S w0 M0 M' φ' r.h w' ∧ TRel M' φ' N (fromKeep ks r.vals) a' ∧ ExR M' r.e e ∧ m ≤ r.h.length
def LoopOk (P : Program) (C : Cfg) (f m : Nat) (p : List Nat) (vals : List AV) (h : Hp) (r : Ans) : Prop :=
  ∃ fn c a, P.funcs[f]? = some fn ∧ fn.body = some c ∧ codeAt p c = some a ∧
    ∀ (S : Nat → Prop) (w0 : World) (M0 M : Mem) (φ : Phi) (w : World) (act : Act), Rel P S w0 M0 M φ h w → TRel M φ fn.ntmps (fromKeep (C.keep f p) vals) act → m ≤ h.length →
      PartWp P a (LoopR P S w0 M0 M φ fn.ntmps m (C.keep f p) r) act w

/-- Whatever is represented by the one is by the other. -/
structure Weak (b t : Ans) : Prop where
  e : b.e = t.e
  len : b.h.length = t.h.length
  rel : ∀ {P : Program} {S : Nat → Prop} {w0 : World} {M0 M : Mem} {φ : Phi} {w : World}, Rel P S w0 M0 M φ b.h w → Rel P S w0 M0 M φ t.h w
  num : b.vals.length = t.vals.length
  vals : ∀ {M : Mem} {φ : Phi} {j : Nat} {x y : AV} {v : Value}, b.vals[j]? = some x → t.vals[j]? = some y → RepA M φ v x → RepA M φ v y
theorem Weak.refl (a : Ans) : Weak a a := ⟨rfl, rfl, fun h => h, rfl, fun h1 h2 h => by rw [h1] at h2; injection h2 with h2; subst h2; exact h⟩
theorem Weak.endR {b t : Ans} (h : Weak b t) {M : Mem} {φ : Phi} {e : Ending} (he : EndR M φ b.e b.vals e) : EndR M φ t.e t.vals e := by
  rw [← h.e]
  have hn := h.num
  cases hb : b.vals with
  | nil =>
    rw [hb] at he hn
    have : t.vals = [] := by simpa using hn.symm
    rw [this]; exact he
  | cons x xs =>
    cases xs with
    | nil =>
      rw [hb] at he hn
      obtain ⟨y, hy⟩ : ∃ y, t.vals = [y] := by
        cases ht : t.vals with
        | nil => rw [ht] at hn; simp at hn
        | cons y ys =>
          cases ys with
          | nil => exact ⟨y, rfl⟩
          | cons => rw [ht] at hn; simp at hn
      rw [hy]
      cases hbe : b.e with
      | ret =>
        rw [hbe] at he
        cases e with
        | returned v => exact h.vals (j := 0) (by rw [hb]; rfl) (by rw [hy]; rfl) he
        | _ => exact he.elim
      | _ => rw [hbe] at he; cases e <;> exact he.elim
    | cons z zs =>
      rw [hb] at he
      cases hbe : b.e <;> rw [hbe] at he <;> cases e <;> exact he.elim
theorem Weak.keep {b t : Ans} (h : Weak b t) {M : Mem} {φ : Phi} (ks : List Nat) (i : Nat) {v : Value} (hv : RepA M φ v (fromKeep ks b.vals i)) : RepA M φ v (fromKeep ks t.vals i) := by
  have key : ∀ (ks : List Nat) (bs ts : List AV), bs.length = ts.length → (∀ (j : Nat) (x y : AV) (v : Value), bs[j]? = some x → ts[j]? = some y → RepA M φ v x → RepA M φ v y) → RepA M φ v (fromKeep ks bs i) → RepA M φ v (fromKeep ks ts i) := by
    intro ks
    induction ks with
    | nil => intro bs ts _ _ h; simpa [fromKeep] using h
    | cons k ks ih =>
      intro bs ts hl hh hv
      cases bs with
      | nil =>
        have : ts = [] := by simpa using hl.symm
        subst this; exact hv
      | cons x xs =>
        cases ts with
        | nil => simp at hl
        | cons y ys =>
          simp only [fromKeep] at hv ⊢
          by_cases hi : i = k
          · rw [if_pos hi] at hv ⊢; exact hh 0 x y v rfl rfl hv
          · rw [if_neg hi] at hv ⊢
            exact ih xs ys (by simpa using hl) (fun j x y v h1 h2 => hh (j + 1) x y v (by simpa using h1) (by simpa using h2)) hv
  exact key ks b.vals t.vals h.num (fun j x y v h1 h2 => h.vals h1 h2) hv
theorem CallR.weak {P : Program} {M : Mem} {φ : Phi} {h : Hp} {w : World} {b t : Ans} (hw : Weak b t) {e : Ending} {w' : World} (hc : CallR P M φ h w b e w') : CallR P M φ h w t e w' := by
  obtain ⟨M', φ', h1, h2, h3, h4, h5⟩ := hc
  exact ⟨M', φ', h1, h2, hw.rel h3, by rw [← hw.len]; exact h4, hw.endR h5⟩
theorem LoopR.weak {P : Program} {S : Nat → Prop} {w0 : World} {M0 M : Mem} {φ : Phi} {N m : Nat} {ks : List Nat} {b t : Ans} (hw : Weak b t) {e : Exit} {a' : Act} {w' : World} (hc : LoopR P S w0 M0 M φ N m ks b e a' w') : LoopR P S w0 M0 M φ N m ks t e a' w' := by
  obtain ⟨M', φ', h1, h2, h3, h4, h5, h6⟩ := hc
  exact ⟨M', φ', h1, h2, hw.rel h3, ⟨h4.size, fun j => hw.keep ks j (h4.val j), h4.defers⟩, by rw [← hw.e]; exact h5, by rw [← hw.len]; exact h6⟩

/-- Whatever ends as the one ends as the other. -/
def CallLe (P : Program) (a t : Ans) : Prop := ∀ (M : Mem) (φ : Phi) (h : Hp) (w : World) (e : Ending) (w' : World), CallR P M φ h w a e w' → CallR P M φ h w t e w'
theorem Weak.call {P : Program} {a t : Ans} (h : Weak a t) : CallLe P a t := fun M φ hh w e w' hc => hc.weak h
theorem CallLe.refl {P : Program} (a : Ans) : CallLe P a a := fun _ _ _ _ _ _ h => h
/-- No slice is a row of the call's own in which nothing stands. -/
theorem CallLe.nilRow {P : Program} {e : TypeId} {sz : Nat} (hsz : szOf P e = some sz) (h0 : 0 < sz) (g : Nat → List PV) : CallLe P ⟨.ret, [.c .nils], []⟩ ⟨.ret, [.c (.os 0)], [.row e 0 g true]⟩ := by
  intro M φ hh w en w' hc
  obtain ⟨M', φ', h1, h2, h3, h4, h5⟩ := hc
  have hlen : hh.length = 0 := by simpa using h4
  have hnone : ∀ l, φ' l = none := fun l => by
    cases hl : φ' l with
    | none => rfl
    | some x => have := h3.dom l x hl; simp at this
  cases en with
  | returned v =>
    have h5 : RepA M' φ' v (.c .nils) := h5
    have hv : v = .slice none 0 0 := by
      cases h5 with
      | c h5 => cases h5 with
        | nils => rfl
    subst hv
    have hφ0 : (fun l => if l = 0 then some (Loc.row (.slice none 0 0) sz) else none : Phi) 0 = some (Loc.row (.slice none 0 0) sz) := rfl
    refine ⟨M', fun l => if l = 0 then some (.row (.slice none 0 0) sz) else none, h1, ?_, ?_, by simp [hlen], .c (.os hφ0 rfl)⟩
    · rw [hlen]; exact fun l hl => by omega
    · refine ⟨h3.mem, h3.agr, ?_, ?_, ?_, ?_, h3.os, h3.tape, h3.output, h3.size, h3.old, h3.new, h3.eqs⟩
      · intro l o ho
        cases l with
        | zero =>
          simp at ho
          subst ho
          exact .row (.slice none 0 0) sz [] hφ0 hsz h0 ⟨by simp, .inl ⟨rfl, rfl⟩⟩ (fun i hi => by omega) (fun i j u x hi => by omega) (fun _ b hb => by cases hb) (fun q => by cases q)
        | succ l => simp at ho
      · intro l l' o o' x x' b ho ho' _ _ hx hx' hb hb'
        have : l = 0 := by
          cases l with
          | zero => rfl
          | succ l => simp at ho
        have : l' = 0 := by
          cases l' with
          | zero => rfl
          | succ l => simp at ho'
        omega
      · intro l o x b ho _ hx hb
        have hx : (if l = 0 then some (Loc.row (.slice none 0 0) sz) else none) = some x := hx
        split at hx
        · injection hx with hx; subst hx; cases hb
        · cases hx
      · intro l x hx
        have hx : (if l = 0 then some (Loc.row (.slice none 0 0) sz) else none) = some x := hx
        split at hx
        · simp; omega
        · cases hx
  | _ => exact h5.elim

def QOk (P : Program) (C : Cfg) : Qry → Ans → Prop
  | .call f args h, a => CallOk P f args h a
  | .loop f m p vals h, a => LoopOk P C f m p vals h a

/-- Who is asked says what is so. -/
def Honest (P : Program) (C : Cfg) {α : Type} (O : Orc α) : Prop := ∀ q k r, O q k = some r → ∃ a, QOk P C q a ∧ k a = some r

def namesOk (P : Program) : Bool := P.funcs.toList.all fun fn => fn.body.isNone || !(fn.name == "runtime.NumGoroutine")
theorem CallIn.ok {P : Program} (hP : namesOk P = true) {f : FuncId} {args : List AV} {h : Hp} {a : Ans} {fn : Func} {c : Code} (hf : P.funcs[f]? = some fn) (hb : fn.body = some c) (hc : CallIn P f args h a) : CallOk P f args h a := by
  intro vs w M φ hR hV
  refine .inl ⟨?_, hc vs w M φ hR hV⟩
  unfold namesOk at hP
  rw [List.all_eq_true] at hP
  have := hP fn (by rw [Array.mem_toList_iff]; exact Array.mem_of_getElem? hf)
  simp only [hb, Option.isNone_some, Bool.false_or, Bool.not_eq_true'] at this
  have hne : ¬ fn.name = "runtime.NumGoroutine" := by simpa using this
  simp [callFunc, hf, hb, hne]

section
variable {P : Program} {S : Nat → Prop} {w0 w w' : World} {M0 M M' : Mem} {φ φ' : Phi} {h : Hp} {α : Type}

theorem zipIx_get : ∀ (h : Hp) (b i : Nat), (zipIx b h)[i]? = (h[i]?).map fun o => (b + i, o)
  | [], b, i => by simp [zipIx]
  | o :: r, b, 0 => by simp [zipIx]
  | o :: r, b, i + 1 => by simp only [zipIx, List.getElem?_cons_succ]; rw [zipIx_get r (b + 1) i]; simp [Nat.add_assoc, Nat.add_comm 1 i]

/-- The list of changes, one behind the other, set at their names: old ones by any name, new ones in order. -/
theorem applyD_back (s : Nat → Nat) : ∀ (h3 : Hp) (i : Nat) (H : Hp) (n b : Nat), (∀ j, j < h3.length → i + j < n → s (i + j) < b) → (∀ j, j < h3.length → n ≤ i + j → s (i + j) = b + (i + j - n)) → H.length = b + (i - n) → b ≤ H.length →
    (∀ j k, j < h3.length → k < h3.length → s (i + j) = s (i + k) → j = k) →
    let H' := applyD H ((zipIx i h3).map fun q => (s q.1, q.2.ren s))
    H'.length = b + (i + h3.length - n) ∧ (∀ j o, h3[j]? = some o → H'[s (i + j)]? = some (o.ren s)) ∧ ∀ l, l < H'.length → (∀ j, j < h3.length → l ≠ s (i + j)) → l < H.length ∧ H'[l]? = H[l]?
  | [], i, H, n, b, h1, h2, hl, hb, hi => by
    simp only [zipIx, List.map_nil, applyD, List.length_nil, Nat.add_zero]
    exact ⟨hl, by simp, fun l hlt _ => ⟨hlt, trivial⟩⟩
  | o :: r, i, H, n, b, h1, h2, hl, hb, hi => by
    simp only [zipIx, List.map_cons, applyD]
    have hs0 : i < n → s i < b := fun hin => by simpa using h1 0 (by simp) (by simpa using hin)
    have hs1 : n ≤ i → s i = b + (i - n) := fun hin => by simpa using h2 0 (by simp) (by simpa using hin)
    obtain ⟨H1, hH1⟩ : ∃ H1, H1 = (if s i < H.length then H.set (s i) (o.ren s) else H ++ [o.ren s]) := ⟨_, rfl⟩
    have hlen : H1.length = b + (i + 1 - n) := by
      rw [hH1]
      by_cases hin : i < n
      · rw [if_pos (by have := hs0 hin; omega), List.length_set]; omega
      · have e := hs1 (by omega)
        rw [if_neg (by omega), List.length_append]; simp; omega
    have hself : H1[s i]? = some (o.ren s) := by
      rw [hH1]
      by_cases hc : s i < H.length
      · rw [if_pos hc, List.getElem?_set_self hc]
      · rw [if_neg hc]
        have hin : ¬ i < n := fun h => by have := hs0 h; omega
        have e := hs1 (by omega)
        rw [List.getElem?_append_right (by omega)]
        have : s i - H.length = 0 := by omega
        rw [this]; rfl
    have hoth : ∀ l, l < H1.length → l ≠ s i → l < H.length ∧ H1[l]? = H[l]? := by
      intro l hl' hne
      by_cases hc : s i < H.length
      · rw [hH1, if_pos hc] at hl' ⊢
        rw [List.length_set] at hl'
        exact ⟨hl', by rw [List.getElem?_set_ne (Ne.symm hne)]⟩
      · rw [hH1, if_neg hc] at hl' ⊢
        rw [List.length_append] at hl'
        simp at hl'
        have hin : ¬ i < n := fun h => by have := hs0 h; omega
        have e := hs1 (by omega)
        have : l < H.length := by omega
        exact ⟨this, by rw [List.getElem?_append_left this]⟩
    obtain ⟨a1, a2, a3⟩ := applyD_back s r (i + 1) H1 n b (fun j hj hn => by have := h1 (j + 1) (by simp; omega) (by omega); rwa [show i + 1 + j = i + (j + 1) by omega]) (fun j hj hn => by have := h2 (j + 1) (by simp; omega) (by omega); rw [show i + 1 + j = i + (j + 1) by omega]; exact this) hlen (by omega) (fun j k hj hk he => by
      have := hi (j + 1) (k + 1) (by simp; omega) (by simp; omega) (by rw [show i + (j + 1) = i + 1 + j by omega, show i + (k + 1) = i + 1 + k by omega]; exact he)
      omega)
    rw [← hH1]
    refine ⟨by rw [a1]; simp; omega, fun j o' ho' => ?_, fun l hl' hne => ?_⟩
    · cases j with
      | zero =>
        simp only [List.getElem?_cons_zero, Option.some.injEq] at ho'
        subst ho'
        by_cases hex : ∃ j, j < r.length ∧ s i = s (i + 1 + j)
        · obtain ⟨j, hj, he⟩ := hex
          have := hi 0 (j + 1) (by simp) (by simp; omega) (by rw [show i + (j + 1) = i + 1 + j by omega]; simpa using he)
          omega
        · have := a3 (s i) (by have h5 := (List.getElem?_eq_some_iff.1 hself).1; rw [a1]; omega) (fun j hj he => hex ⟨j, hj, he⟩)
          exact this.2.trans hself
      | succ j =>
        have := a2 j o' (by simpa using ho')
        rwa [show i + 1 + j = i + (j + 1) by omega] at this
    · obtain ⟨b1, b2⟩ := a3 l hl' (fun j hj he => hne (j + 1) (by simp; omega) (by rw [show i + (j + 1) = i + 1 + j by omega]; exact he))
      obtain ⟨c1, c2⟩ := hoth l b1 (fun he => hne 0 (by simp) (by simpa using he))
      exact ⟨c1, b2.trans c2⟩
end
end Go.Fx
