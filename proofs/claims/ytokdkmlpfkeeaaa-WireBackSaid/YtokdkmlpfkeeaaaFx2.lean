/- The small interpreter's operands and its memory against the model's. -/
import Derived.Test.YtokdkmlpfkeeaaaFx1
import Derived.Laws.Entries
set_option linter.unusedVariables false
set_option linter.unusedSimpArgs false
namespace Go.Fx
open Go.RowKit

theorem absC_rep {M : Mem} {φ : Phi} {x : Value} {c : CV} (h : absC x = some c) : RepC M φ x c := by
  unfold absC at h
  split at h
  · injection h with h; subst h; exact .nils
  · split at h
    · rename_i hs
      injection h with h; subst h; exact .p (.v hs)
    · cases h
theorem absCs_rep {M : Mem} {φ : Phi} : ∀ {xs : List Value} {cs : List CV}, absCs xs = some cs → RepCs M φ xs cs
  | [], cs, h => by simp [absCs] at h; subst h; exact RepCs.nil
  | x :: l, cs, h => by
    simp only [absCs] at h
    split at h
    · rename_i c r hc hr
      injection h with h; subst h
      exact RepCs.cons (absC_rep hc) (absCs_rep hr)
    · cases h
theorem absV_rep {M : Mem} {φ : Phi} (x : Value) : RepA M φ x (absV x) := by
  unfold absV
  split
  · rename_i cs
    split
    · rename_i l hl
      have := RepA.agg (absCs_rep (M := M) (φ := φ) hl)
      simpa using this
    · exact .top
  · split
    · rename_i c hc; exact .c (absC_rep hc)
    · exact .top

/-- The frame of a call: every temporary stands for what is kept of it. -/
structure TRel (M : Mem) (φ : Phi) (N : Nat) (t : Tm) (a : Act) : Prop where
  size : N ≤ a.tmps.size
  val : ∀ j, RepA M φ (a.tmps.getD j undef) (t j)
  defers : a.defers = []
theorem TRel.mono {M M' : Mem} {φ φ' : Phi} {N : Nat} {t : Tm} {a : Act} (h : TRel M φ N t a) (hm : M.le M') (hf : φ.le φ') : TRel M' φ' N t a := ⟨h.size, fun j => (h.val j).mono hm hf, h.defers⟩
theorem TRel.ev {M : Mem} {φ : Phi} {N : Nat} {t : Tm} {a : Act} (h : TRel M φ N t a) (x : Operand) : RepA M φ (a.eval x) (ev t x) := by
  cases x with
  | tmp j => exact h.val j
  | const v => exact absV_rep v
  | global g => exact .top
  | func f => exact .c (.p (.v rfl))
theorem TRel.put {M : Mem} {φ : Phi} {N : Nat} {t : Tm} {a : Act} (h : TRel M φ N t a) {d : Nat} (hd : d < N) {v : Value} {x : AV} (hv : RepA M φ v x) : TRel M φ N (upd t d x) (a.put (some d) v) := by
  refine ⟨by simp [Act.put]; exact h.size, fun j => ?_, h.defers⟩
  rw [upd_eq]
  have hs := h.size
  by_cases hj : j = d
  · subst hj
    rw [if_pos rfl]
    simp only [Act.put, Array.getD_eq_getD_getElem?, Array.getElem?_setIfInBounds]
    have hlt : j < a.tmps.size := by omega
    simp only [hlt, if_true]
    exact hv
  · rw [if_neg hj]
    have := h.val j
    simp only [Act.put, Array.getD_eq_getD_getElem?, Array.getElem?_setIfInBounds] at this ⊢
    rw [if_neg (Ne.symm hj)]
    exact this

theorem pureOf_run {β : Type} {P : Program} : ∀ (s : Sem β) {r : β}, pureOf P s = some r → ∀ w, s.run P w = .ok r w
  | .pure a, r, h, w => by simp [pureOf] at h; subst h; rfl
  | .program k, r, h, w => pureOf_run (k P) (by simpa [pureOf] using h) w
  | .load .., _, h, _ => by simp [pureOf] at h
  | .store .., _, h, _ => by simp [pureOf] at h
  | .new .., _, h, _ => by simp [pureOf] at h
  | .shape .., _, h, _ => by simp [pureOf] at h
  | .freeze .., _, h, _ => by simp [pureOf] at h
  | .frozen .., _, h, _ => by simp [pureOf] at h
  | .getObj .., _, h, _ => by simp [pureOf] at h
  | .setObj .., _, h, _ => by simp [pureOf] at h
  | .choose .., _, h, _ => by simp [pureOf] at h
  | .sys .., _, h, _ => by simp [pureOf] at h
  | .mark .., _, h, _ => by simp [pureOf] at h
  | .halt .., _, h, _ => by simp [pureOf] at h

theorem scals_rep {M : Mem} {φ : Phi} : ∀ {cs : List CV} {l : List Value} {vs : List Value}, scals cs = some l → RepCs M φ vs cs → vs = l
  | [], l, vs, h, hr => by simp [scals] at h; subst h; exact hr.nil_inv
  | .p (.v y) :: cs, l, vs, h, hr => by
    simp only [scals] at h
    cases hp : scals cs with
    | none => rw [hp] at h; simp at h
    | some r =>
      rw [hp] at h
      simp at h
      subst h
      obtain ⟨v, vs', rfl, hv, hvs⟩ := hr.uncons
      have := scals_rep hp hvs
      subst this
      cases hv with
      | p h => cases h with
        | v _ => rfl
  | .p (.sl ..) :: _, _, _, h, _ => by simp [scals] at h
  | .p (.ifc ..) :: _, _, _, h, _ => by simp [scals] at h
  | .p (.ifa ..) :: _, _, _, h, _ => by simp [scals] at h
  | .nils :: _, _, _, h, _ => by simp [scals] at h
  | .ptr _ _ :: _, _, _, h, _ => by simp [scals] at h
  | .ep _ _ _ :: _, _, _, h, _ => by simp [scals] at h
  | .os _ :: _, _, _, h, _ => by simp [scals] at h
  | .bs _ _ _ _ :: _, _, _, h, _ => by simp [scals] at h
  | .ip _ :: _, _, _, h, _ => by simp [scals] at h
  | .fn _ _ :: _, _, _, h, _ => by simp [scals] at h
  | .itp _ :: _, _, _, h, _ => by simp [scals] at h
  | .mp _ :: _, _, _, h, _ => by simp [scals] at h
theorem conc_rep {M : Mem} {φ : Phi} {v u : Value} {x : AV} (h : RepA M φ v x) (hc : conc x = some u) : v = u := by
  unfold conc at hc
  split at hc
  · injection hc with hc; subst hc
    cases h with
    | c h => cases h with
      | p h => cases h with
        | v _ => rfl
  · split at hc
    · rename_i l hl
      injection hc with hc; subst hc
      cases h with
      | agg h => rw [scals_rep hl h]
    · cases hc
  · cases hc
theorem concs_rep {M : Mem} {φ : Phi} : ∀ {xs : List AV} {l vs : List Value}, concs xs = some l → vs.length = xs.length → (∀ (j : Nat) (v : Value) (x : AV), vs[j]? = some v → xs[j]? = some x → RepA M φ v x) → vs = l
  | [], l, vs, h, hl, _ => by simp [concs] at h; subst h; simpa using hl
  | x :: xs, l, [], h, hl, _ => by simp at hl
  | x :: xs, l, v :: vs, h, hl, hr => by
    simp only [concs] at h
    split at h
    · rename_i c r hc hr'
      injection h with h; subst h
      rw [conc_rep (hr 0 v x rfl rfl) hc, concs_rep hr' (by simpa using hl) (fun j v x hv hx => hr (j + 1) v x hv hx)]
    · cases h

/-- Names below n stay where they are. -/
def Phi.upto (φ : Phi) (n : Nat) (φ' : Phi) : Prop := φ.le φ' ∧ ∀ l, l < n → φ' l = φ l
theorem Phi.upto.refl {n : Nat} (φ : Phi) : φ.upto n φ := ⟨.refl _, fun _ _ => rfl⟩

def Phi.eqTo (φ : Phi) (n : Nat) (φ' : Phi) : Prop := ∀ l, l < n → φ' l = φ l
theorem Phi.eqTo.refl {n : Nat} (φ : Phi) : φ.eqTo n φ := fun _ _ => rfl
theorem Phi.eqTo.trans {n : Nat} {φ φ' φ'' : Phi} (h1 : φ.eqTo n φ') (h2 : φ'.eqTo n φ'') : φ.eqTo n φ'' := fun l hl => (h2 l hl).trans (h1 l hl)
theorem Phi.upto.eqTo {n m : Nat} {φ φ' : Phi} (h : φ.upto n φ') (hm : m ≤ n) : φ.eqTo m φ' := fun l hl => h.2 l (by omega)

/-! ### How the world goes on -/
section
variable {P : Program} {S : Nat → Prop} {w0 w w' : World} {M0 M M' : Mem} {φ φ' : Phi} {h : Hp}

/-- What an operation leaves: the value, and the objects. -/
def Leaves (P : Program) (S : Nat → Prop) (w0 : World) (M0 M : Mem) (φ : Phi) (h : Hp) (d : Dl) (v' : Value) (v : AV) (w' : World) : Prop :=
  ∃ M' φ', M.le M' ∧ φ.upto h.length φ' ∧ Rel P S w0 M0 M' φ' (applyD h d) w' ∧ RepA M' φ' v' v

theorem Leaves.same (hR : Rel P S w0 M0 M φ h w) {v' : Value} {v : AV} (hv : RepA M φ v' v) : Leaves P S w0 M0 M φ h [] v' v w := ⟨M, φ, .refl _, .refl _, hR, hv⟩

theorem Rel.drew (hR : Rel P S w0 M0 M φ h w) : Rel P S w0 M0 M φ h w.drew :=
  ⟨hR.mem, hR.agr, fun l o ho => (hR.obj l o ho).keep (.refl _) (.refl _) (fun _ _ _ _ => rfl) (fun _ _ _ _ _ _ hq => hq), hR.sep, hR.own, hR.dom, hR.os, hR.tape, hR.output, hR.size, hR.old, hR.new, hR.eqs⟩

def setPhi (φ : Phi) (l : Nat) (x : Loc) : Phi := fun j => if j = l then some x else φ j
theorem setPhi_le {l : Nat} {x : Loc} (hl : φ l = none) : φ.le (setPhi φ l x) := fun j y hy => by
  unfold setPhi
  by_cases e : j = l
  · subst e; rw [hl] at hy; cases hy
  · rw [if_neg e]; exact hy
theorem setPhi_upto {l : Nat} {x : Loc} (hl : φ l = none) : φ.upto l (setPhi φ l x) := ⟨setPhi_le hl, fun j hj => by unfold setPhi; rw [if_neg (by omega)]⟩
theorem dom_none (hR : Rel P S w0 M0 M φ h w) : φ h.length = none := by
  cases e : φ h.length with
  | none => rfl
  | some x => have := hR.dom _ _ e; omega

def killed (h : Hp) : Option Nat → Hp
  | none => h
  | some l => h.set l .dead

theorem Rel.blk_lt (hR : Rel P S w0 M0 M φ h w) {l : Nat} {q : Ob} {y : Loc} {b : Nat} (hq : h[l]? = some q) (ha : q.alive = true) (hy : φ l = some y) (hb : y.blk = some b) : b < w.heap.size := by
  have hO := hR.obj l q hq
  cases hO with
  | box b' vs e hφ hh _ _ _ => rw [hφ] at hy; injection hy with hy; subst hy; simp [Loc.blk] at hb; subst hb; exact (Array.getElem?_eq_some_iff.1 hh).1
  | row v sz cells hφ _ _ hown _ _ _ _ => rw [hφ] at hy; injection hy with hy; subst hy; exact (hown.lt b hb).2
  | rrow b' sz vs e hφ hh _ _ _ _ => rw [hφ] at hy; injection hy with hy; subst hy; simp [Loc.blk, Value.ownBlock] at hb; subst hb; exact (Array.getElem?_eq_some_iff.1 hh).1
  | iter r hφ hh _ => rw [hφ] at hy; injection hy with hy; subst hy; simp [Loc.blk] at hb; subst hb; exact (Array.getElem?_eq_some_iff.1 hh).1
  | smap r hφ hh _ => rw [hφ] at hy; injection hy with hy; subst hy; simp [Loc.blk] at hb; subst hb; exact hh.lt
  | dead => simp [Ob.alive] at ha

theorem Rel.push (hR : Rel P S w0 M0 M φ h w) (k : Option Nat) (g : Option Nat) (hk : ∀ l, k = some l → ∃ o x, h[l]? = some o ∧ o.alive = true ∧ φ l = some x ∧ x.blk = g) (hk0 : k = none → g = none)
    (hg : w.grownBy w' g) (hgM : ∀ b, g = some b → ∀ o, M b o = none) {o : Ob} {x : Loc} (hx : ∀ b, x.blk = some b → w.heap.size ≤ b ∨ (some b = g)) (hlt : ∀ b, x.blk = some b → b < w'.heap.size)
    (ho : ObjAt P M (setPhi φ h.length x) w' h.length o) : Rel P S w0 M0 M (setPhi φ h.length x) (killed h k ++ [o]) w' := by
  have hn := dom_none hR
  have hle := setPhi_le (x := x) hn
  generalize hh' : killed h k = h'
  have hlen : h'.length = h.length := by subst hh'; cases k <;> simp [killed]
  have hget : ∀ l q, h'[l]? = some q → l < h.length ∧ ((some l = k ∧ q = .dead) ∨ (some l ≠ k ∧ h[l]? = some q)) := by
    intro l q hq
    have hl : l < h.length := by have := (List.getElem?_eq_some_iff.1 hq).1; omega
    refine ⟨hl, ?_⟩
    subst hh'
    cases k with
    | none => exact .inr ⟨by simp, hq⟩
    | some kk =>
      simp only [killed] at hq
      by_cases e : l = kk
      · subst e; rw [List.getElem?_set_self hl] at hq; injection hq with hq; exact .inl ⟨rfl, hq.symm⟩
      · rw [List.getElem?_set_ne (Ne.symm e)] at hq; exact .inr ⟨by simp [e], hq⟩
  have happ : ∀ l q, (h' ++ [o])[l]? = some q → (l = h.length ∧ q = o) ∨ (l < h.length ∧ h'[l]? = some q) := by
    intro l q hq
    by_cases hl : l < h'.length
    · rw [List.getElem?_append_left hl] at hq; exact .inr ⟨by omega, hq⟩
    · rw [List.getElem?_append_right (by omega)] at hq
      have : l - h'.length = 0 := by
        have := (List.getElem?_eq_some_iff.1 hq).1
        simp at this; omega
      rw [this] at hq
      simp at hq
      exact .inl ⟨by omega, hq.symm⟩
  have hphi : ∀ l, l < h.length → setPhi φ h.length x l = φ l := fun l hl => by unfold setPhi; rw [if_neg (by omega)]
  have hnew : setPhi φ h.length x h.length = some x := by unfold setPhi; rw [if_pos rfl]
  -- a block of an elder living object isn't g
  have hng : ∀ l q y b, h[l]? = some q → q.alive = true → φ l = some y → y.blk = some b → some l ≠ k → some b ≠ g := by
    intro l q y b hq ha hy hb hlk e
    cases k with
    | none => rw [hk0 rfl] at e; cases e
    | some kk =>
      obtain ⟨o2, x2, h2, a2, p2, b2⟩ := hk kk rfl
      have := hR.sep l kk q o2 y x2 b hq h2 ha a2 hy p2 hb (by rw [b2]; exact e.symm)
      exact hlk (by rw [this])
  have hin : ∀ l q y b, h[l]? = some q → q.alive = true → φ l = some y → y.blk = some b → b < w.heap.size := fun l q y b hq ha hy hb => hR.blk_lt hq ha hy hb
  refine ⟨hR.mem, ?_, ?_, ?_, ?_, ?_, hg.os.trans hR.os, hg.tape.trans hR.tape, hg.output.trans hR.output, Nat.le_trans hR.size hg.size, ?_, hR.new, hR.eqs⟩
  · intro b q v hv
    have h1 := hR.agr b q v hv
    have hb := block_lt h1
    have hne : some b ≠ g := fun e => by have := hgM b e.symm q; rw [this] at hv; cases hv
    exact (World.cell?_of_block (a := ⟨b, q, none⟩) (hg.block b hb hne)).trans h1
  · intro l q hq
    rcases happ l q hq with ⟨rfl, rfl⟩ | ⟨hl, hq⟩
    · exact ho
    · obtain ⟨_, ⟨e, rfl⟩ | ⟨hlk, hq⟩⟩ := hget l q hq
      · exact .dead
      · by_cases ha : q.alive = true
        · exact (hR.obj l q hq).keep (.refl _) hle (fun y b hy hb => hg.block b (hin l q y b hq ha hy hb) (hng l q y b hq ha hy hb hlk)) (fun _ _ _ _ _ _ hz => hz)
        · cases q <;> simp [Ob.alive] at ha
          exact .dead
  · intro l l' q q' y y' b hq hq' ha ha' hy hy' hb hb'
    rcases happ l q hq with ⟨hl, hqo⟩ | ⟨hl, hq1⟩
    · rcases happ l' q' hq' with ⟨hl', _⟩ | ⟨hl', hq1'⟩
      · rw [hl, hl']
      · exfalso
        rw [hl, hnew] at hy; injection hy with hy; subst hy
        rw [hphi l' hl'] at hy'
        obtain ⟨_, ⟨e, rfl⟩ | ⟨hlk, hq2⟩⟩ := hget l' q' hq1'
        · simp [Ob.alive] at ha'
        · have h1 := hin l' q' y' b hq2 ha' hy' hb'
          have h2 := hng l' q' y' b hq2 ha' hy' hb' hlk
          rcases hx b hb with h3 | h3
          · omega
          · exact h2 h3
    · rcases happ l' q' hq' with ⟨hl', hqo⟩ | ⟨hl', hq1'⟩
      · exfalso
        rw [hl', hnew] at hy'; injection hy' with hy'; subst hy'
        rw [hphi l hl] at hy
        obtain ⟨_, ⟨e, rfl⟩ | ⟨hlk, hq2⟩⟩ := hget l q hq1
        · simp [Ob.alive] at ha
        · have h1 := hin l q y b hq2 ha hy hb
          have h2 := hng l q y b hq2 ha hy hb hlk
          rcases hx b hb' with h3 | h3
          · omega
          · exact h2 h3
      · rw [hphi l hl] at hy
        rw [hphi l' hl'] at hy'
        obtain ⟨_, ⟨e, rfl⟩ | ⟨hlk, hq2⟩⟩ := hget l q hq1
        · simp [Ob.alive] at ha
        · obtain ⟨_, ⟨e, rfl⟩ | ⟨hlk', hq2'⟩⟩ := hget l' q' hq1'
          · simp [Ob.alive] at ha'
          · exact hR.sep l l' q q' y y' b hq2 hq2' ha ha' hy hy' hb hb'
  · intro l q y b hq ha hy hb
    rcases happ l q hq with ⟨rfl, rfl⟩ | ⟨hl, hq⟩
    · rw [hnew] at hy; injection hy with hy; subst hy
      rcases hx b hb with h3 | h3
      · exact .inr (Nat.le_trans hR.size h3)
      · cases k with
        | none => rw [hk0 rfl] at h3; cases h3
        | some kk =>
          obtain ⟨o2, x2, h2, a2, p2, b2⟩ := hk kk rfl
          exact hR.own kk o2 x2 b h2 a2 p2 (by rw [b2]; exact h3.symm)
    · rw [hphi l hl] at hy
      obtain ⟨_, ⟨e, rfl⟩ | ⟨hlk, hq⟩⟩ := hget l q hq
      · simp [Ob.alive] at ha
      · exact hR.own l q y b hq ha hy hb
  · intro l y hy
    rw [List.length_append, hlen]
    unfold setPhi at hy
    by_cases e : l = h.length
    · simp [e]
    · rw [if_neg e] at hy
      have := hR.dom l y hy
      simp; omega
  · intro b hb hS
    have h1 := hR.old b hb hS
    have hne : some b ≠ g := by
      intro e
      cases k with
      | none => rw [hk0 rfl] at e; cases e
      | some kk =>
        obtain ⟨o2, x2, h2, a2, p2, b2⟩ := hk kk rfl
        rcases hR.own kk o2 x2 b h2 a2 p2 (by rw [b2]; exact e.symm) with h3 | h3
        · exact hS h3
        · omega
    rw [hg.block b (Nat.lt_of_lt_of_le hb hR.size) hne]
    exact h1

/-- An object is written: its block alone changes. -/
theorem Rel.setO (hR : Rel P S w0 M0 M φ h w) {l g : Nat} {q o : Ob} {x : Loc} (hl : h[l]? = some q) (ha : q.alive = true) (hφ : φ l = some x) (hx : x.blk = some g) (hM : ∀ o, M g o = none)
    (hg : w.grownBy w' (some g)) (ho : ObjAt P M φ w' l o) : Rel P S w0 M0 M φ (h.set l o) w' := by
  have hlt : l < h.length := (List.getElem?_eq_some_iff.1 hl).1
  have hget : ∀ l' q', (h.set l o)[l']? = some q' → (l' = l ∧ q' = o) ∨ (l' ≠ l ∧ h[l']? = some q') := by
    intro l' q' hq'
    by_cases e : l' = l
    · subst e; rw [List.getElem?_set_self hlt] at hq'; injection hq' with hq'; exact .inl ⟨rfl, hq'.symm⟩
    · rw [List.getElem?_set_ne (Ne.symm e)] at hq'; exact .inr ⟨e, hq'⟩
  have hng : ∀ l' q' y b, h[l']? = some q' → q'.alive = true → φ l' = some y → y.blk = some b → l' ≠ l → some b ≠ some g := by
    intro l' q' y b hq ha' hy hb hne e
    exact hne (hR.sep l' l q' q y x b hq hl ha' ha hy hφ hb (by rw [hx]; exact e.symm))
  refine ⟨hR.mem, ?_, ?_, ?_, ?_, fun l y hy => by rw [List.length_set]; exact hR.dom l y hy, hg.os.trans hR.os, hg.tape.trans hR.tape, hg.output.trans hR.output, Nat.le_trans hR.size hg.size, ?_, hR.new, hR.eqs⟩
  · intro b q v hv
    have h1 := hR.agr b q v hv
    have hne : some b ≠ some g := fun e => by injection e with e; subst e; rw [hM q] at hv; cases hv
    exact (World.cell?_of_block (a := ⟨b, q, none⟩) (hg.block b (block_lt h1) hne)).trans h1
  · intro l' q' hq'
    rcases hget l' q' hq' with ⟨rfl, rfl⟩ | ⟨hne, hq1⟩
    · exact ho
    · by_cases ha' : q'.alive = true
      · exact (hR.obj l' q' hq1).keep (.refl _) (.refl _) (fun y b hy hb => hg.block b (hR.blk_lt hq1 ha' hy hb) (hng l' q' y b hq1 ha' hy hb hne)) (fun _ _ _ _ _ _ hz => hz)
      · cases q' <;> simp [Ob.alive] at ha'
        exact .dead
  · intro l1 l2 q1 q2 y1 y2 b h1 h2 a1 a2 p1 p2 b1 b2
    rcases hget l1 q1 h1 with ⟨e1, _⟩ | ⟨n1, h1'⟩
    · rcases hget l2 q2 h2 with ⟨e2, _⟩ | ⟨n2, h2'⟩
      · rw [e1, e2]
      · exfalso
        rw [e1, hφ] at p1; injection p1 with p1; subst p1
        rw [hx] at b1
        exact hng l2 q2 y2 b h2' a2 p2 b2 n2 b1.symm
    · rcases hget l2 q2 h2 with ⟨e2, _⟩ | ⟨n2, h2'⟩
      · exfalso
        rw [e2, hφ] at p2; injection p2 with p2; subst p2
        rw [hx] at b2
        exact hng l1 q1 y1 b h1' a1 p1 b1 n1 b2.symm
      · exact hR.sep l1 l2 q1 q2 y1 y2 b h1' h2' a1 a2 p1 p2 b1 b2
  · intro l' q' y b hq' ha' hy hb
    rcases hget l' q' hq' with ⟨e1, _⟩ | ⟨n1, h1'⟩
    · rw [e1] at hy
      exact hR.own l q y b hl ha hy hb
    · exact hR.own l' q' y b h1' ha' hy hb
  · intro b hb hS
    have hne : some b ≠ some g := by
      intro e
      injection e with e
      subst e
      rcases hR.own l q x b hl ha hφ hx with h3 | h3
      · exact hS h3
      · omega
    rw [hg.block b (Nat.lt_of_lt_of_le hb hR.size) hne]
    exact hR.old b hb hS

/-- An object becomes lasting: its cells are known from now on. -/
theorem Rel.freeze (hR : Rel P S w0 M0 M φ h w) {l : Nat} {q o : Ob} (hl : h[l]? = some q) (hq : q.live = true) (N : Mem) (hle : M.le N)
    (hN : ∀ b k v, N b k = some v → M b k = some v ∨ (∃ x, φ l = some x ∧ x.blk = some b ∧ w.cell? ⟨b, k, none⟩ = some v)) (hal : q.alive = true)
    (ho : ObjAt P N φ w l o) : Rel P S w0 M0 N φ (h.set l o) w := by
  have hlt : l < h.length := (List.getElem?_eq_some_iff.1 hl).1
  have hget : ∀ l' q', (h.set l o)[l']? = some q' → (l' = l ∧ q' = o) ∨ (l' ≠ l ∧ h[l']? = some q') := by
    intro l' q' hq'
    by_cases e : l' = l
    · subst e; rw [List.getElem?_set_self hlt] at hq'; injection hq' with hq'; exact .inl ⟨rfl, hq'.symm⟩
    · rw [List.getElem?_set_ne (Ne.symm e)] at hq'; exact .inr ⟨e, hq'⟩
  refine ⟨hR.mem.trans hle, ?_, ?_, ?_, ?_, fun l y hy => by rw [List.length_set]; exact hR.dom l y hy, hR.os, hR.tape, hR.output, hR.size, hR.old, ?_, hR.eqs⟩
  · intro b k v hv
    rcases hN b k v hv with h1 | ⟨x, _, _, h1⟩
    · exact hR.agr b k v h1
    · exact h1
  · intro l' q' hq'
    rcases hget l' q' hq' with ⟨rfl, rfl⟩ | ⟨hne, hq1⟩
    · exact ho
    · by_cases ha' : q'.alive = true
      · refine (hR.obj l' q' hq1).keep hle (.refl _) (fun _ _ _ _ => rfl) (fun hlv y b hy hb k hk => ?_)
        cases hn : N b k with
        | none => rfl
        | some v =>
          rcases hN b k v hn with h1 | ⟨x, hx, hxb, _⟩
          · rw [hk] at h1; cases h1
          · exact absurd (hR.sep l' l q' q y x b hq1 hl ha' hal hy hx hb hxb) hne
      · cases q' <;> simp [Ob.alive] at ha'
        exact .dead
  · intro l1 l2 q1 q2 y1 y2 b h1 h2 a1 a2 p1 p2 b1 b2
    rcases hget l1 q1 h1 with ⟨e1, _⟩ | ⟨n1, h1'⟩
    · rcases hget l2 q2 h2 with ⟨e2, _⟩ | ⟨n2, h2'⟩
      · rw [e1, e2]
      · rw [e1] at p1 ⊢; exact hR.sep l l2 q q2 y1 y2 b hl h2' hal a2 p1 p2 b1 b2
    · rcases hget l2 q2 h2 with ⟨e2, _⟩ | ⟨n2, h2'⟩
      · rw [e2] at p2 ⊢; exact hR.sep l1 l q1 q y1 y2 b h1' hl a1 hal p1 p2 b1 b2
      · exact hR.sep l1 l2 q1 q2 y1 y2 b h1' h2' a1 a2 p1 p2 b1 b2
  · intro l' q' y b hq' ha' hy hb
    rcases hget l' q' hq' with ⟨e1, _⟩ | ⟨n1, h1'⟩
    · rw [e1] at hy; exact hR.own l q y b hl hal hy hb
    · exact hR.own l' q' y b h1' ha' hy hb
  · intro b k v hv
    rcases hN b k v hv with h1 | ⟨x, hx, hxb, _⟩
    · exact hR.new b k v h1
    · exact .inr (hR.own l q x b hl hal hx hxb)
end
end Go.Fx
